/-
  Disk1, Disk3, Disk2, Disk4, Disk5, Disk6, in one text.
-/
import Derived.Test.YtfapklpcgcgahaaGreatDoorProg
import Derived.Test.YtfapklpcgcgahaaGreatDoorMg01
import Derived.WalkKit
import Derived.WalkSpells
import Derived.WalkLawsBesides
import Derived.Deep.OwnRows
import Derived.RegionTactic
import Derived.BigRegion
import Derived.Laws.CopyOwn
/-
  What the small calls on a disk do: Sectors, Writes, Waiting, Dead, Fuse, burn, wrong.
-/
namespace Go.Proofs.YtfapklpcgcgahaaGreatDoor
set_option linter.unusedSimpArgs false
set_option linter.unusedVariables false
open Go.RowKit

def DS.burn (S : DS) : DS := if 0 < S.fuse then { S with fuse := S.fuse - 1, dead := decide (S.fuse - 1 = 0) } else S
def DS.set (S : DS) (n : Int) : DS := { S with fuse := max n (-1), dead := S.dead || decide (n = 0) }

section
variable {R : Nat → Prop} {w : World} {p : Nat} {S : DS}

/-- The facts that a walk wants of a disk's own cells. -/
theorem DiskAt.cells {nb lb : Nat} {nv lv : List Value} {wv : Value} {ws : List (Nat × Value)} (h : DiskAt R w p nb lb nv lv wv ws S) :
    w.cell? ⟨p, 0, none⟩ = some (.slice (some ⟨nb, 0, none⟩) S.now.length nv.length) ∧ w.cell? ⟨p, 1, none⟩ = some (.slice (some ⟨lb, 0, none⟩) S.now.length lv.length) ∧
    w.cell? ⟨p, 2, none⟩ = some wv ∧ w.cell? ⟨p, 3, none⟩ = some (.int .i64 S.writes) ∧ w.cell? ⟨p, 4, none⟩ = some (.int .i64 S.fuse) ∧ w.cell? ⟨p, 5, none⟩ = some (.bool S.dead) :=
  ⟨h.blk.cell 0, h.blk.cell 1, h.blk.cell 2, h.blk.cell 3, h.blk.cell 4, h.blk.cell 5⟩

theorem Sectors_any (h : DiskOk R w p S) : Calls Tryz.prog 31 #[.pointer (some ⟨p, 0, none⟩)] w fun e w' => e = .returned (.int .i64 S.now.length) ∧ w = w' := by
  obtain ⟨nb, lb, nv, lv, wv, ws, h⟩ := h
  obtain ⟨h0, h1, h2, h3, h4, h5⟩ := h.cells
  go_enter Tryz.func31, Tryz.ntmps31
  go_wp2
  go_ret
  exact ⟨rfl, rfl⟩
theorem Dead_any (h : DiskOk R w p S) : Calls Tryz.prog 38 #[.pointer (some ⟨p, 0, none⟩)] w fun e w' => e = .returned (.bool S.dead) ∧ w = w' := by
  obtain ⟨nb, lb, nv, lv, wv, ws, h⟩ := h
  obtain ⟨h0, h1, h2, h3, h4, h5⟩ := h.cells
  go_enter Tryz.func38, Tryz.ntmps38
  go_wp2
  go_ret
  exact ⟨rfl, rfl⟩

theorem burn_at {nb lb : Nat} {nv lv : List Value} {wv : Value} {ws : List (Nat × Value)} (h : DiskAt R w p nb lb nv lv wv ws S) :
    Calls Tryz.prog 100 #[.pointer (some ⟨p, 0, none⟩)] w fun e w' => e = .returned (.tuple #[]) ∧ DiskAt R w' p nb lb nv lv wv ws S.burn ∧ Fr (fun k => k = p) w w' := by
  obtain ⟨h0, h1, h2, h3, h4, h5⟩ := h.cells
  have f4 := h.blk.frozen 4
  have f5 := h.blk.frozen 5
  have H := Lib.hid h
  have g0 := h.fuse0
  have g1 := h.fuse1
  clear h
  by_cases hz : 0 < S.fuse
  · go_enter Tryz.func100, Tryz.ntmps100
    go_wp2
    go_end0
    have hf : Fr (fun k => k = p) w ((w.setCell ⟨p, 4, none⟩ (.int .i64 (S.fuse - 1))).setCell ⟨p, 5, none⟩ (.bool (S.fuse - 1 == 0))) := ((Fr.refl (fun k => k = p) w).setCell (p := ⟨p, 4, none⟩) (.inr rfl) _).setCell (p := ⟨p, 5, none⟩) (.inr rfl) _
    refine ⟨rfl, ?_, hf⟩
    have e : S.burn = { S with writes := S.writes, fuse := S.fuse - 1, dead := (S.fuse - 1 == 0) } := by
      unfold DS.burn; rw [if_pos hz]; rfl
    rw [e]
    exact H.out.small_set hf _ _ _ (by omega) (by omega) ((H.out.blk.set_ 4 _).set_ 5 _)
  · go_enter Tryz.func100, Tryz.ntmps100
    go_wp2
    go_end0
    refine ⟨rfl, ?_, Fr.refl _ _⟩
    have e : S.burn = S := by
      unfold DS.burn; rw [if_neg (by omega)]
    rw [e]
    exact H.out



/-- What is wrong with a sector's number, or the disk. -/
def DS.wrong (S : DS) (i : Int) : Int := if i < 0 ∨ (S.now.length : Int) ≤ i then 1 else if S.dead = true then 50 else 0

theorem wrong_any (i : Int) (h : DiskOk R w p S) :
    Calls Tryz.prog 125 #[.pointer (some ⟨p, 0, none⟩), .int .i64 i] w fun e w' => e = .returned (.int .i64 (S.wrong i)) ∧ w = w' := by
  obtain ⟨nb, lb, nv, lv, wv, ws, h⟩ := h
  obtain ⟨h0, h1, h2, h3, h4, h5⟩ := h.cells
  clear h
  unfold DS.wrong
  rcases (by omega : i < 0 ∨ (0 ≤ i ∧ (S.now.length : Int) ≤ i) ∨ (0 ≤ i ∧ i < (S.now.length : Int))) with hi | ⟨hi, hi2⟩ | ⟨hi, hi2⟩
  · rw [if_pos (.inl hi)]
    go_enter Tryz.func125, Tryz.ntmps125
    go_wp2
    go_ret
    exact ⟨rfl, rfl⟩
  · rw [if_pos (.inr hi2)]
    go_enter Tryz.func125, Tryz.ntmps125
    go_wp2
    go_ret
    exact ⟨rfl, rfl⟩
  · rw [if_neg (by omega)]
    by_cases hd : S.dead = true
    all_goals
      simp only [hd, if_true, if_false, Bool.false_eq_true]
      go_enter Tryz.func125, Tryz.ntmps125
      go_wp2
      go_ret
      exact ⟨rfl, rfl⟩

end
end Go.Proofs.YtfapklpcgcgahaaGreatDoor

/-
  What New makes.
-/
namespace Go.Proofs.YtfapklpcgcgahaaGreatDoor
set_option linter.unusedSimpArgs false
set_option linter.unusedVariables false
open Go.RowKit

theorem info_bytes : (Tryz.prog.info? 40).map (fun i => (i.zero, i.size, i.bytes)) = some (some (.slice none 0 0), 1, 24) := by kernel_rfl

def DS.new (n : Nat) : DS := { now := List.replicate n nought, last := List.replicate n nought, waits := [], writes := 0, fuse := -1, dead := false }


theorem secs_replicate (R : Nat → Prop) (w : World) (n : Nat) : Secs R w (List.replicate n (.slice none 0 0)) (List.replicate n nought) := by
  refine ⟨by simp, fun i v s hv hs => ?_⟩
  rw [List.getElem?_replicate] at hv hs
  split at hv
  · injection hv with hv
    rw [if_pos (by assumption)] at hs
    injection hs with hs
    subst hv hs
    exact ⟨by simp [nought], .inl ⟨rfl, rfl⟩⟩
  · cases hv


theorem new_shape (n : Nat) (w : World) (h1 : 8 ≤ n) (h2 : n ≤ 65536) (nb lb : Nat) (h : nb = w.heap.size ∧ lb = w.heap.size + 1 ∨ nb = w.heap.size + 1 ∧ lb = w.heap.size) (w' : World)
    (hw : w' = (((w.alloc (.cells (madeCells #[.slice none 0 0] n) 40)).alloc (.cells (madeCells #[.slice none 0 0] n) 40)).alloc (.cells #[.slice (some ⟨nb, 0, none⟩) n n, .slice (some ⟨lb, 0, none⟩) n n, .slice none 0 0, .int .i64 0, .int .i64 (-1), .bool false] 67)).drew) :
    w.heap.size ≤ w.heap.size + 1 + 1 ∧ DiskOk (fun b => w.heap.size ≤ b ∧ b < w'.heap.size) w' (w.heap.size + 1 + 1) (DS.new n) ∧ Fr Nob w w' := by
  have hz : w'.heap.size = w.heap.size + 3 := by subst hw; simp
  have b0 : Blk w' w.heap.size 40 (List.replicate n (.slice none 0 0)).toArray := by
    subst hw; rw [← madeCells_toArray]; exact (((Blk.new w _ _).alloc _).alloc _).drew
  have b1 : Blk w' (w.heap.size + 1) 40 (List.replicate n (.slice none 0 0)).toArray := by
    subst hw; rw [← madeCells_toArray]
    have := Blk.new (w.alloc (.cells (madeCells #[.slice none 0 0] n) 40)) 40 (madeCells #[.slice none 0 0] n)
    rw [World.size_alloc] at this
    exact (this.alloc _).drew
  have b2 : Blk w' (w.heap.size + 1 + 1) 67 #[.slice (some ⟨nb, 0, none⟩) n n, .slice (some ⟨lb, 0, none⟩) n n, .slice none 0 0, .int .i64 0, .int .i64 (-1), .bool false] := by
    subst hw
    have := Blk.new ((w.alloc (.cells (madeCells #[.slice none 0 0] n) 40)).alloc (.cells (madeCells #[.slice none 0 0] n) 40)) 67 #[.slice (some ⟨nb, 0, none⟩) n n, .slice (some ⟨lb, 0, none⟩) n n, .slice none 0 0, .int .i64 0, .int .i64 (-1), .bool false]
    rw [World.size_alloc, World.size_alloc] at this
    exact this.drew
  refine ⟨by omega, ⟨nb, lb, List.replicate n (.slice none 0 0), List.replicate n (.slice none 0 0), .slice none 0 0, [], ?_⟩, ?_⟩
  · exact { blk := by simpa [DS.new] using b2
            bnow := by rcases h with ⟨rfl, rfl⟩ | ⟨rfl, rfl⟩ <;> assumption
            blast := by rcases h with ⟨rfl, rfl⟩ | ⟨rfl, rfl⟩ <;> assumption
            ne := by omega
            own := World.ownsRow_nil _ _ _ _
            rp := by omega
            rn := by omega
            rl := by omega
            rw := by simp [Value.ownBlock]
            lt := fun b hb => hb.2
            llen := by simp [DS.new]
            pos := by simp [DS.new]; omega
            small := by simpa [DS.new] using h2
            now := secs_replicate _ _ _
            last := secs_replicate _ _ _
            waits := ⟨rfl, fun i x y hx => by simp at hx⟩
            fuse0 := by simp [DS.new]
            fuse1 := by simp [DS.new] }
  · subst hw
    exact ((((Fr.refl _ w).alloc _).alloc _).alloc _).drew

set_option maxHeartbeats 400000 in
theorem New_good (n : Nat) (w : World) (h1 : 8 ≤ n) (h2 : n ≤ 65536) :
    Calls Tryz.prog 10 #[.int .i64 n] w fun e w' => ∃ p, e = .returned (.tuple #[.pointer (some ⟨p, 0, none⟩), .int .i64 0]) ∧ w.heap.size ≤ p ∧ DiskOk (fun b => w.heap.size ≤ b ∧ b < w'.heap.size) w' p (DS.new n) ∧ Fr Nob w w' := by
  have hmk := run_make_row' (P := Tryz.prog) 64 40 (.slice none 0 0) 24 Tryz.underlying64 info_bytes rfl .i64 .i64 n (by omega) (by omega)
  go_enter Tryz.func10, Tryz.ntmps10
  go_wp2
  go_region
  · go_wp2
    go_ret2
    exact ⟨_, rfl, new_shape n w h1 h2 _ _ (.inl ⟨rfl, rfl⟩) _ rfl⟩
  · go_wp2
    go_ret2
    exact ⟨_, rfl, new_shape n w h1 h2 _ _ (.inr ⟨rfl, rfl⟩) _ rfl⟩
end Go.Proofs.YtfapklpcgcgahaaGreatDoor

/-
  What New, Clone of a row of bytes, Write and Read do.
-/
namespace Go.Proofs.YtfapklpcgcgahaaGreatDoor
set_option linter.unusedSimpArgs false
set_option linter.unusedVariables false
open Go.RowKit

theorem info_u8 : (Tryz.prog.info? 5).map (fun i => (i.zero, i.size, i.bytes)) = some (some (.int .u8 0), 1, 1) := by kernel_rfl

set_option maxHeartbeats 400000 in
set_option maxRecDepth 100000 in
theorem clone_bytes_any (a : Addr) (n c : Nat) (s : List UInt8) (w : World) (hs : s.length = n) (hc : ∀ j u, (bts s)[j]? = some u → w.cell? (a.add j) = some u) (hb : a.block < w.heap.size) (hn : n ≤ 140737488351232) :
    Calls Tryz.prog 121 #[.slice (some a) n c] w fun e w' => ∃ v', e = .returned v' ∧ w'.ownsRow w.heap.size 5 1 v' n (bts s) ∧ v' ≠ .slice none 0 0 ∧ Fr Nob w w' := by
  obtain ⟨i0, hi, hz0, hz1, hz2⟩ := info_parts info_u8
  have Hc := Lib.hid hc
  have Hs := Lib.hid hs
  clear hc hs
  have c1 : Hid ((bts s).length = n * 1) := by rw [bts_length, Hs.out]; show n = n * 1; omega
  have c2 : Hid (∀ j u, (bts s)[j]? = some u → (w.alloc (.cells #[] 5)).cell? (a.add j) = some u) := by
    intro j u hu; rw [World.cell?_alloc_lt _ _ _ (by unfold Addr.add; split <;> exact hb)]; exact Hc.out j u hu
  have c3 : Hid (0 + n ≤ maxLen) := by show 0 + n ≤ maxLen; unfold maxLen; omega
  have hnil := fun (w : World) (a : Option Addr) (n c n' c' : Nat) => Lib.run_eql_slice_nil (P := Tryz.prog) w 40 5 a n c n' c' Tryz.underlying40
  go_enter Tryz.func121, Tryz.ntmps121
  go_wp2_with (at_builtin; go_must (refine wpList_append_own_at _ rfl (.tmp 5) (.tmp 6) 40 rfl w.heap.size 5 i0 (.int .u8 0) 1 1 Tryz.underlying40 hi hz0 hz1 hz2 rfl (by decide) (.slice (some ⟨w.heap.size, 0, none⟩) 0 0) 0 [] rfl (World.ownsRow_made w #[] 0 (Nat.le_refl _) (by decide) rfl) a n c (bts s) rfl c1.out c2.out (bts_one s) c3.out (by omega) (by simp) ?_); intro v' w1 hown hg hn0 hat)
  go_ret
  refine ⟨v', rfl, by simpa using hown, by rw [Ne, hn0]; simp, ?_⟩
  exact ((Fr.refl _ _).alloc _).grown hg (fun k hk => .inl (Nat.le_of_eq (by simpa [Value.ownBlock] using hk)))
end Go.Proofs.YtfapklpcgcgahaaGreatDoor

/-
  What Write does.
-/
namespace Go.Proofs.YtfapklpcgcgahaaGreatDoor
set_option linter.unusedSimpArgs false
set_option linter.unusedVariables false
open Go.RowKit

theorem info_write : (Tryz.prog.info? 149).map (fun i => (i.zero, i.size, i.bytes)) = some (some (.agg #[.int .i64 0, .slice none 0 0]), 2, 32) := by kernel_rfl

def DS.wr (S : DS) (i : Nat) (s : List UInt8) : DS := (S.wr0 i s).burn

section
variable {R : Nat → Prop} {w : World} {p : Nat} {S : DS}

theorem Write_bad (i : Int) (A : Option Addr) (m c : Nat) (h : DiskOk R w p S) (hb : i < 0 ∨ (S.now.length : Int) ≤ i ∨ m ≠ 64) :
    Calls Tryz.prog 86 #[.pointer (some ⟨p, 0, none⟩), .int .i64 i, .slice A m c] w fun e w' => e = .returned (.int .i64 1) ∧ w = w' := by
  obtain ⟨nb, lb, nv, lv, wv, ws, h⟩ := h
  obtain ⟨h0, h1, h2, h3, h4, h5⟩ := h.cells
  clear h
  rcases (by omega : i < 0 ∨ (0 ≤ i ∧ (S.now.length : Int) ≤ i) ∨ (0 ≤ i ∧ i < (S.now.length : Int) ∧ m ≠ 64)) with hi | ⟨hi, hi2⟩ | ⟨hi, hi2, hm⟩
  · clear hb
    go_enter Tryz.func86, Tryz.ntmps86
    go_wp2
    go_ret
    exact ⟨rfl, rfl⟩
  · clear hb
    go_enter Tryz.func86, Tryz.ntmps86
    go_wp2
    go_ret
    exact ⟨rfl, rfl⟩
  · clear hb
    have hm' : ((m : Int) != 64) = true := by simp; omega
    go_enter Tryz.func86, Tryz.ntmps86
    go_wp2
    go_ret
    exact ⟨rfl, rfl⟩

theorem Write_dead (i : Int) (A : Option Addr) (c : Nat) (h : DiskOk R w p S) (hi : 0 ≤ i) (hi2 : i < (S.now.length : Int)) (hd : S.dead = true) :
    Calls Tryz.prog 86 #[.pointer (some ⟨p, 0, none⟩), .int .i64 i, .slice A 64 c] w fun e w' => e = .returned (.int .i64 50) ∧ w = w' := by
  obtain ⟨nb, lb, nv, lv, wv, ws, h⟩ := h
  obtain ⟨h0, h1, h2, h3, h4, h5⟩ := h.cells
  rw [hd] at h5
  clear h hd
  go_enter Tryz.func86, Tryz.ntmps86
  go_wp2
  go_ret
  exact ⟨rfl, rfl⟩

set_option maxHeartbeats 800000 in
set_option maxRecDepth 100000 in
theorem Write_goodD (i : Nat) (a : Addr) (c : Nat) (s : List UInt8) (h : DiskOk R w p S) (hi : i < S.now.length) (hd : S.dead = false) (hs : s.length = 64)
    (hc : ∀ j u, (bts s)[j]? = some u → w.cell? (a.add j) = some u) (ha : a.block < w.heap.size) (hwl : S.waits.length < 4000000000) :
    Calls Tryz.prog 86 #[.pointer (some ⟨p, 0, none⟩), .int .i64 i, .slice (some a) 64 c] w fun e w' => e = .returned (.int .i64 0) ∧ DiskOk (Ext R w w') w' p (S.wr i s) ∧ FrD R w w' := by
  obtain ⟨i0, hi0, hz0, hz1, hz2⟩ := info_parts info_write
  obtain ⟨nb, lb, nv, lv, wv, ws, h⟩ := h
  obtain ⟨h0, h1, h2, h3, h4, h5⟩ := h.cells
  have hin : i < nv.length := Nat.lt_of_lt_of_le hi h.now.1
  rw [hd] at h5
  have H := Lib.hid h
  have Hc := Lib.hid hc
  have Hs := Lib.hid hs
  have hpn : ¬ p = nb := Blk.ne_ h.blk h.bnow (by decide)
  have hnp : ¬ nb = p := fun e => hpn e.symm
  have Hd := Lib.hid hd
  clear h hc hs hd
  go_enter Tryz.func86, Tryz.ntmps86
  go_wp2_with fail
  refine (clone_bytes_any a 64 c s _ Hs.out Hc.out ha (by omega)).mono ?_
  rintro e w1 ⟨v1, rfl, hown, hne, hfr⟩
  obtain ⟨g, cap, rfl, hg, hglt⟩ := hown.form (by omega)
  have H1 := Lib.hid (H.out.fr hfr (fun _ _ hb => hb))
  obtain ⟨h0', h1', h2', h3', h4', h5'⟩ := H1.out.cells
  clear h0 h1 h2 h3 h4 h5
  rw [Hd.out] at h5'
  have fn := H1.out.bnow.frozen i
  have cn : w1.cell? ⟨nb, i, none⟩ = some (nv[i]'hin) := by rw [H1.out.bnow.cell i]; simp
  have hwl' : Hid (ws.length < 4000000000) := by show _ < _; rw [H.out.waits.1]; exact hwl
  clear hwl
  have hownW : Hid (((w1.setCell ⟨nb, i, none⟩ (.slice (some ⟨g, 0, none⟩) 64 cap)).alloc (.cells #[.int .i64 i, .slice (some ⟨g, 0, none⟩) 64 cap] 149)).ownsRow 0 149 2 wv ws.length (waitCells ws)) :=
    (own_set H1.out.own H1.out.bnow (by decide)).alloc _
  have c2 : Hid (∀ j u, [Value.int .i64 i, .slice (some ⟨g, 0, none⟩) 64 cap][j]? = some u → ((w1.setCell ⟨nb, i, none⟩ (.slice (some ⟨g, 0, none⟩) 64 cap)).alloc (.cells #[.int .i64 i, .slice (some ⟨g, 0, none⟩) 64 cap] 149)).cell? ((⟨w1.heap.size, 0, none⟩ : Addr).add j) = some u) := by
    intro j u hu
    have hb := Blk.new (w1.setCell ⟨nb, i, none⟩ (.slice (some ⟨g, 0, none⟩) 64 cap)) 149 #[.int .i64 i, .slice (some ⟨g, 0, none⟩) 64 cap]
    rw [show (w1.setCell ⟨nb, i, none⟩ (.slice (some ⟨g, 0, none⟩) 64 cap)).heap.size = w1.heap.size from by simp [World.setCell]] at hb
    have hj := World.news_of_block hb
    exact hj j u (by simpa using hu)
  have c3 : Hid (ws.length + 1 ≤ maxLen) := by show _ ≤ _; have := hwl'.out; unfold maxLen; omega
  have c4 : Hid ((ws.length + 1) * 32 ≤ 140737488355328) := by show _ ≤ _; have := hwl'.out; omega
  have Hown := Lib.hid hown
  clear hown hne
  go_wp2_with (at_builtin; go_must (refine wpList_append_own_at _ rfl (.tmp 41) (.tmp 45) 65 rfl 0 149 i0 (.agg #[.int .i64 0, .slice none 0 0]) 2 32 Tryz.underlying65 hi0 hz0 hz1 hz2 rfl (by decide) wv ws.length (waitCells ws) rfl hownW.out ⟨w1.heap.size, 0, none⟩ 1 1 [.int .i64 i, .slice (some ⟨g, 0, none⟩) 64 cap] rfl rfl c2.out (by simp [Value.oneCell']) c3.out c4.out (Nat.zero_le _) ?_); intro v' w2 hown' hg2 hn0 hat; obtain ⟨g2, cap2, rfl, hg2lo, hg2lt⟩ := hown'.form (by omega); have HG := Lib.hid hg2; have HO := Lib.hid hown'; have HA := Lib.hid hat; clear hn0 hg2 hown' hat; have hb2 := ((H1.out.blk.far (p := ⟨nb, i, none⟩) hpn (.slice (some ⟨g, 0, none⟩) 64 cap)).alloc (.cells #[.int .i64 i, .slice (some ⟨g, 0, none⟩) 64 cap] 149)).grown HG.out (Blk.own_ne H1.out.blk H1.out.own (by decide)); have k2 : w2.cell? ⟨p, 2, none⟩ = some wv := hb2.cell 2; have k3 : w2.cell? ⟨p, 3, none⟩ = some (.int .i64 S.writes) := hb2.cell 3; have q2 := hb2.frozen 2; have q3 := hb2.frozen 3; clear hb2)
  obtain ⟨hD, hF⟩ := write_shape H1.out w.heap.size g cap i s hi Hs.out (fun b hb => H.out.lt b hb) Hown.out _ HG.out HO.out (by simpa [World.setCell] using HA.out) hfr.size _ rfl
  have HF := Lib.hid hF
  clear hF
  refine (burn_at hD).mono ?_
  clear hD
  rintro e w5 ⟨rfl, hD5, hf5⟩
  have HD5 := Lib.hid hD5
  have Hf5 := Lib.hid hf5
  clear hD5 hf5
  go_wp2
  go_ret
  have hfin : FrD R w w5 := (FrD.step (R := R) hfr (fun _ h => h.elim) HF.out (fun _ _ h => h)).step' Hf5.out (fun b _ e => by subst e; exact ⟨H.out.rp, not_u8 H.out.blk (by decide)⟩)
  have hsz := Hf5.out.size
  refine ⟨rfl, ⟨_, _, _, _, _, _, HD5.out.more (R' := Ext R w w5) ?_ ?_⟩, hfin⟩
  · rintro b (hb | ⟨hb, hb2⟩)
    · exact .inl hb
    · exact .inr ⟨hb, by omega⟩
  · rintro b (hb | hb)
    · have := H.out.lt b hb; have := hfin.fr.size; omega
    · exact hb.2


end
end Go.Proofs.YtfapklpcgcgahaaGreatDoor

/-
  What Read, Nought and Sector make.
-/
namespace Go.Proofs.YtfapklpcgcgahaaGreatDoor
set_option linter.unusedSimpArgs false
set_option linter.unusedVariables false
open Go.RowKit

def zeros64 : Array Value := madeCells #[.int .u8 0] 64
theorem zeros64_eq : zeros64 = (bts nought).toArray := by
  rw [zeros64, madeCells_toArray]; simp [bts, nought]

theorem make64 (w : World) : (Instr.makeSlice 40 (.int .i64 64) (.int .i64 64)).run Tryz.prog w = .ok (.slice (some ⟨w.heap.size, 0, none⟩) 64 64) (w.alloc (.cells zeros64 5)) :=
  run_make_row' (P := Tryz.prog) 40 5 (.int .u8 0) 1 Tryz.underlying40 info_u8 rfl .i64 .i64 64 (by omega) (by omega) w

section
variable {R : Nat → Prop} {w : World} {p : Nat} {S : DS}

theorem Read_bad (i : Int) (h : DiskOk R w p S) (hb : S.wrong i ≠ 0) :
    Calls Tryz.prog 90 #[.pointer (some ⟨p, 0, none⟩), .int .i64 i] w fun e w' => e = .returned (.tuple #[.slice none 0 0, .int .i64 (S.wrong i)]) ∧ w = w' := by
  have hb' : (S.wrong i != 0) = true := by simpa using hb
  have hw := (wrong_any (w := w) i h)
  have HW := Lib.hid hw
  clear hw h hb
  generalize S.wrong i = e0 at *
  go_enter Tryz.func90, Tryz.ntmps90
  go_wp2_with (go_at_call 125; refine HW.out.mono ?_; rintro e w' ⟨rfl, rfl⟩)
  go_ret2
  exact ⟨rfl, rfl⟩

set_option maxHeartbeats 400000 in
set_option maxRecDepth 100000 in
theorem Read_good (i : Nat) (s : List UInt8) (h : DiskOk R w p S) (hd : S.dead = false) (hs : S.now[i]? = some s) :
    Calls Tryz.prog 90 #[.pointer (some ⟨p, 0, none⟩), .int .i64 i] w fun e w' => e = .returned (.tuple #[.slice (some ⟨w.heap.size, 0, none⟩) 64 64, .int .i64 0]) ∧ Blk w' w.heap.size 5 (bts s).toArray ∧ Fr Nob w w' := by
  have hw := wrong_any (w := w) i h
  have hi : i < S.now.length := (List.getElem?_eq_some_iff.1 hs).1
  rw [show S.wrong i = 0 from by unfold DS.wrong; rw [if_neg (by omega), hd]; rfl] at hw
  have HW := Lib.hid hw
  obtain ⟨nb, lb, nv, lv, wv, ws, h⟩ := h
  obtain ⟨h0, h1, h2, h3, h4, h5⟩ := h.cells
  have hi' : i < nv.length := Nat.lt_of_lt_of_le hi h.now.1
  have hsec := h.now.2 i _ s (List.getElem?_eq_getElem hi') hs
  have hpl : p < w.heap.size := h.blk.lt
  have hnl : nb < w.heap.size := h.bnow.lt
  have cn : w.cell? ⟨nb, i, none⟩ = some (nv[i]'hi') := by rw [h.bnow.cell i]; simp
  have H := Lib.hid h
  clear hw h hs hd
  generalize nv[i] = v at *
  have hmk := make64
  have hlen := hsec.1
  have Hlen := Lib.hid hlen
  clear hlen
  have hcur : Hid (((w.alloc (.cells zeros64 5)).heap[w.heap.size]? = some (.cells (bts nought).toArray 5 (0, 0)))) := by
    show _ = _
    rw [← zeros64_eq]; exact heap_alloc_new w _
  have hinf : (Tryz.prog.info? 5).map (·.size) = some 1 := by kernel_rfl
  have HF := Lib.hid ((Below.refl w.heap.size w).alloc (Nat.le_refl _) (.cells zeros64 5))
  rcases hsec.2 with ⟨rfl, rfl⟩ | ⟨hown, hR⟩
  · clear hsec
    go_enter Tryz.func90, Tryz.ntmps90
    go_wp2_with (first
      | (go_at_call 125; refine HW.out.mono ?_; rintro e w' ⟨rfl, rfl⟩)
      | (with_reducible refine wpList_copy_nothing rfl (.tmp 15) (.tmp 22) 40 40 rfl 5 Tryz.underlying40 hinf _ _ _ _ _ _ rfl rfl rfl ?_))
    go_ret2
    exact ⟨rfl, hcur.out, Fr.of_below HF.out⟩
  · obtain ⟨g, cap, rfl, _, hglt⟩ := hown.form (by omega)
    have hsrc : Hid (∀ j u, (bts s)[j]? = some u → (w.alloc (.cells zeros64 5)).cell? ((⟨g, 0, none⟩ : Addr).add j) = some u) := by
      intro j u hu
      rw [World.cell?_alloc_lt _ _ _ (by unfold Addr.add; split <;> exact hglt)]
      exact hown.cells (g := g) rfl j u hu
    clear hsec hown
    have hn : Hid ((bts s).length = Nat.min 64 64) := by show _ = _; rw [bts_length, Hlen.out]; rfl
    have hfit : Hid (0 + (bts s).length ≤ (bts nought).length) := by show _ ≤ _; rw [bts_length, bts_length, Hlen.out]; simp [nought]
    go_enter Tryz.func90, Tryz.ntmps90
    go_wp2_with (first
      | (go_at_call 125; refine HW.out.mono ?_; rintro e w' ⟨rfl, rfl⟩)
      | (with_reducible refine wpList_copy_splice rfl (.tmp 15) (.tmp 22) 40 40 rfl 5 Tryz.underlying40 hinf (some ⟨w.heap.size, 0, none⟩) (some ⟨g, 0, none⟩) 64 64 64 cap rfl rfl w.heap.size 0 (bts nought) 5 hcur.out (bts s) hn.out (fun _ => ⟨rfl, _, rfl, hsrc.out⟩) hfit.out (bts_one s) w.heap.size w HF.out (Nat.le_refl _) ?_
         intro w3 hg3 hb3
         have HB3 := Lib.hid hb3
         clear hb3))
    go_ret2
    refine ⟨rfl, ?_, Fr.of_below HB3.out⟩
    have := hg3.out
    rwa [show splice (bts nought) 0 (bts s) = bts s from by simp [splice, bts_length, Hlen.out, nought]] at this

end

/-- 'string(b)' where b's row is known. -/
theorem conv_own {w : World} {base n cap : Nat} {a : Addr} {s : List UInt8} (h : w.ownsRow base 5 1 (.slice (some a) n cap) n (bts s)) :
    (convert 40 9 (.slice (some a) n cap)).run Tryz.prog w = .ok (.string ⟨s.toArray⟩) w := by
  have hl : s.length = n := by have := h.1; rw [bts_length] at this; omega
  obtain ⟨g, e⟩ : ∃ g, a = ⟨g, 0, none⟩ := by
    rcases h.2 with ⟨e, _⟩ | ⟨g, cap', cur, e, _⟩
    · cases e
    · injection e with e; injection e with e; exact ⟨g, e⟩
  subst e
  have hc := h.cells (g := g) rfl
  subst hl
  refine run_convert_bytes_back (P := Tryz.prog) w 40 9 5 ⟨g, 0, none⟩ cap s Tryz.underlying40 Tryz.underlying5 Tryz.underlying9 (fun j hj => hc j _ ?_)
  rw [bts_get]; simp [hj]

theorem own_of_blk {w : World} {g : Nat} {t : TypeId} {xs : List Value} (h : Blk w g t xs.toArray) (hm : xs.length ≤ maxLen) : w.ownsRow 0 t 1 (.slice (some ⟨g, 0, none⟩) xs.length xs.length) xs.length xs :=
  ⟨by omega, .inr ⟨g, _, _, rfl, Nat.zero_le _, h, Nat.le_refl _, hm, by simp, by simp⟩⟩

theorem bts_own {w : World} {g : Nat} {s : List UInt8} (h : Blk w g 5 (bts s).toArray) (hs : s.length = 64) : w.ownsRow 0 5 1 (.slice (some ⟨g, 0, none⟩) 64 64) 64 (bts s) := by
  have := own_of_blk h (by rw [bts_length, hs]; decide)
  rwa [bts_length, hs] at this

end Go.Proofs.YtfapklpcgcgahaaGreatDoor

/-
  What Flush does.
-/
namespace Go.Proofs.YtfapklpcgcgahaaGreatDoor
set_option linter.unusedSimpArgs false
set_option linter.unusedVariables false
open Go.RowKit

def DS.flush (S : DS) : DS := S.flush0.burn

section
variable {R : Nat → Prop} {w : World} {p : Nat} {S : DS}

theorem Flush_dead (h : DiskOk R w p S) (hd : S.dead = true) :
    Calls Tryz.prog 60 #[.pointer (some ⟨p, 0, none⟩)] w fun e w' => e = .returned (.int .i64 50) ∧ w = w' := by
  obtain ⟨nb, lb, nv, lv, wv, ws, h⟩ := h
  obtain ⟨h0, h1, h2, h3, h4, h5⟩ := h.cells
  rw [hd] at h5
  clear h hd
  go_enter Tryz.func60, Tryz.ntmps60
  go_wp2
  go_ret
  exact ⟨rfl, rfl⟩

set_option maxHeartbeats 800000 in
theorem Flush_goodD (h : DiskOk R w p S) (hd : S.dead = false) (hwl : S.waits.length < 4000000000) :
    Calls Tryz.prog 60 #[.pointer (some ⟨p, 0, none⟩)] w fun e w' => e = .returned (.int .i64 0) ∧ DiskOk R w' p S.flush ∧ FrD R w w' := by
  obtain ⟨nb, lb, nv, lv, wv, ws, h⟩ := h
  obtain ⟨h0, h1, h2, h3, h4, h5⟩ := h.cells
  rw [hd] at h5
  have hwl' : Hid (ws.length < 4000000000) := by show _ < _; rw [h.waits.1]; exact hwl
  obtain ⟨A, c, rfl⟩ : ∃ A c, wv = .slice A ws.length c := by
    rcases h.own.2 with ⟨e, e2⟩ | ⟨g, cap, cur, e, _⟩
    · rw [e2]; exact ⟨_, _, e⟩
    · exact ⟨_, _, e⟩
  have H := Lib.hid h
  clear h hwl
  go_enter Tryz.func60, Tryz.ntmps60
  go_wp2

  go_loopw [4, 14] (fun _ v wr => ∃ k : Nat, k ≤ ws.length ∧ v = .int .i64 k ∧ Hid (Fr (fun b => b = lb) w wr) ∧ Hid (Blk wr lb 40 (setAll lv (ws.take k)).toArray)) (fun _ v _ => ws.length - (intOf v).toNat)
  case atStart => exact ⟨0, by omega, rfl, Fr.refl _ _, by show Blk _ _ _ _; have := H.out.blast; simpa [setAll] using this⟩
  case round =>
    obtain ⟨k, hk, rfl, hf, hb⟩ := hrel
    have hwlO : ws.length < 4000000000 := hwl'.out
    by_cases hlt : k < ws.length
    · obtain ⟨g, cap, e, _, hglt⟩ := H.out.own.form (by omega)
      injection e with e1 e2 e3
      subst e1 e3
      clear e2
      have hx := waitCells_get ws k hlt
      have hxn : ws[k].1 < S.now.length := (H.out.waits.2 k ws[k] _ (List.getElem?_eq_getElem hlt) (List.getElem?_eq_getElem (by rw [← H.out.waits.1]; exact hlt))).2.1
      have hgl : ¬ g = lb := fun e => Blk.own_ne H.out.blast H.out.own (by decide) (by subst e; rfl)
      have hownr := own_fr H.out.own hf.out (fun k hk e => hgl (by subst e; simpa [Value.ownBlock] using hk))
      have c0 := hownr.cellAt (k * 2) (by omega)
      have c1 := hownr.cellAt (k * 2 + 1) (by omega)
      rw [hx.1] at c0
      rw [hx.2] at c1
      have hbp := H.out.blk.fr hf.out (Blk.ne_ H.out.blk H.out.blast (by decide))
      have d1 : wr.cell? ⟨p, 1, none⟩ = some (.slice (some ⟨lb, 0, none⟩) S.now.length lv.length) := hbp.cell 1
      have fl := hb.out.frozen ws[k].1
      obtain ⟨v0, cl⟩ : ∃ v0, wr.cell? ⟨lb, ws[k].1, none⟩ = some v0 := by
        rw [hb.out.cell]
        have : ws[k].1 < (setAll lv (ws.take k)).length := by rw [setAll_length]; have h1 := H.out.last.1; have h2 := H.out.llen; omega
        exact ⟨_, by rw [List.getElem?_toArray]; exact List.getElem?_eq_getElem this⟩
      have hpl := hbp.lt
      have hll := hb.out.lt
      clear hx hbp hownr
      have hk5 := setAll_take lv ws k hlt
      have HK := Lib.hid hk5
      clear hk5
      have hxs := (H.out.waits.2 k ws[k] _ (List.getElem?_eq_getElem hlt) (List.getElem?_eq_getElem (by rw [← H.out.waits.1]; exact hlt))).2.2.form
      generalize ws[k] = x at *
      obtain ⟨xi, xv⟩ := x
      obtain ⟨A2, n2, c2, hxs⟩ := hxs
      dsimp only at hxs
      subst hxs
      dsimp only at *
      go_wp2
      go_region
      go_wp2
      go_roundw
      case rel =>
        refine ⟨k + 1, by omega, by go_num, ((hf.out.setCell (p := ⟨lb, xi, none⟩) (.inr rfl) _).alloc _).drew, ?_⟩
        have h2 := ((hb.out.set_ xi (.slice A2 n2 c2)).alloc (.cells #[.int .i64 xi, .slice A2 n2 c2] 149)).drew
        rw [List.setIfInBounds_toArray, ← HK.out] at h2
        exact h2
      case measure => simp [intOf]; omega
    · obtain rfl : k = ws.length := by omega
      have hbp := H.out.blk.fr hf.out (Blk.ne_ H.out.blk H.out.blast (by decide))
      have d2 : wr.cell? ⟨p, 2, none⟩ = some (.slice A ws.length c) := hbp.cell 2
      have fp := hbp.frozen 2
      clear hbp
      have hb' := hb.out
      rw [List.take_length] at hb'
      have HB := Lib.hid hb'
      clear hb'
      go_wp2_with fail
      obtain ⟨hD, hF⟩ := flush_shape H.out hf.out HB.out _ rfl
      have HF := Lib.hid hF
      clear hF
      refine (burn_at hD).mono ?_
      clear hD
      rintro e w5 ⟨rfl, hD5, hf5⟩
      have HD5 := Lib.hid hD5
      have Hf5 := Lib.hid hf5
      clear hD5 hf5
      go_wp2
      go_ret
      exact ⟨rfl, ⟨_, _, _, _, _, _, HD5.out⟩, HF.out.step' Hf5.out (fun b _ e => by subst e; exact ⟨H.out.rp, not_u8 H.out.blk (by decide)⟩)⟩


end
end Go.Proofs.YtfapklpcgcgahaaGreatDoor
