/-
  What Write does.
-/
import Derived.Test.YtilclfeaolhoeaaDoorDisk2
namespace Go.Proofs.YtilclfeaolhoeaaDoor
set_option linter.unusedSimpArgs false
set_option linter.unusedVariables false
open Go.RowKit

theorem info_write : (Tryd.prog.info? 65).map (fun i => (i.zero, i.size, i.bytes)) = some (some (.agg #[.int .i64 0, .slice none 0 0]), 2, 32) := by kernel_rfl

def DS.wr (S : DS) (i : Nat) (s : List UInt8) : DS := (S.wr0 i s).burn

section
variable {R : Nat → Prop} {w : World} {p : Nat} {S : DS}

theorem Write_bad (i : Int) (A : Option Addr) (m c : Nat) (h : DiskOk R w p S) (hb : i < 0 ∨ (S.now.length : Int) ≤ i ∨ m ≠ 64) :
    Calls Tryd.prog 29 #[.pointer (some ⟨p, 0, none⟩), .int .i64 i, .slice A m c] w fun e w' => e = .returned (.int .i64 1) ∧ w = w' := by
  obtain ⟨nb, lb, nv, lv, wv, ws, h⟩ := h
  obtain ⟨h0, h1, h2, h3, h4, h5⟩ := h.cells
  clear h
  rcases (by omega : i < 0 ∨ (0 ≤ i ∧ (S.now.length : Int) ≤ i) ∨ (0 ≤ i ∧ i < (S.now.length : Int) ∧ m ≠ 64)) with hi | ⟨hi, hi2⟩ | ⟨hi, hi2, hm⟩
  · clear hb
    go_enter Tryd.func29, Tryd.ntmps29
    go_wp2
    go_ret
    exact ⟨rfl, rfl⟩
  · clear hb
    go_enter Tryd.func29, Tryd.ntmps29
    go_wp2
    go_ret
    exact ⟨rfl, rfl⟩
  · clear hb
    have hm' : ((m : Int) != 64) = true := by simp; omega
    go_enter Tryd.func29, Tryd.ntmps29
    go_wp2
    go_ret
    exact ⟨rfl, rfl⟩

theorem Write_dead (i : Int) (A : Option Addr) (c : Nat) (h : DiskOk R w p S) (hi : 0 ≤ i) (hi2 : i < (S.now.length : Int)) (hd : S.dead = true) :
    Calls Tryd.prog 29 #[.pointer (some ⟨p, 0, none⟩), .int .i64 i, .slice A 64 c] w fun e w' => e = .returned (.int .i64 50) ∧ w = w' := by
  obtain ⟨nb, lb, nv, lv, wv, ws, h⟩ := h
  obtain ⟨h0, h1, h2, h3, h4, h5⟩ := h.cells
  rw [hd] at h5
  clear h hd
  go_enter Tryd.func29, Tryd.ntmps29
  go_wp2
  go_ret
  exact ⟨rfl, rfl⟩

set_option maxHeartbeats 800000 in
set_option maxRecDepth 100000 in
theorem Write_goodD (i : Nat) (a : Addr) (c : Nat) (s : List UInt8) (h : DiskOk R w p S) (hi : i < S.now.length) (hd : S.dead = false) (hs : s.length = 64)
    (hc : ∀ j u, (bts s)[j]? = some u → w.cell? (a.add j) = some u) (ha : a.block < w.heap.size) (hwl : S.waits.length < 4000000000) :
    Calls Tryd.prog 29 #[.pointer (some ⟨p, 0, none⟩), .int .i64 i, .slice (some a) 64 c] w fun e w' => e = .returned (.int .i64 0) ∧ DiskOk (Ext R w w') w' p (S.wr i s) ∧ FrD R w w' := by
  obtain ⟨i0, hi0, hz0, hz1, hz2⟩ := info_parts info_write
  obtain ⟨nb, lb, nv, lv, wv, ws, h⟩ := h
  obtain ⟨h0, h1, h2, h3, h4, h5⟩ := h.cells
  have hin : i < nv.length := Nat.lt_of_lt_of_le hi h.now.1
  rw [hd] at h5
  have H := Lib.hid h
  have Hc := Lib.hid hc
  have Hs := Lib.hid hs
  have hpn : ¬ p = nb := Blk.ne_ h.blk h.bnow (by decide)
  have hnp : ¬ nb = p := fun e => hpn e.symm
  have Hd := Lib.hid hd
  clear h hc hs hd
  go_enter Tryd.func29, Tryd.ntmps29
  go_wp2_with fail
  refine (clone_bytes_any a 64 c s _ Hs.out Hc.out ha (by omega)).mono ?_
  rintro e w1 ⟨v1, rfl, hown, hne, hfr⟩
  obtain ⟨g, cap, rfl, hg, hglt⟩ := hown.form (by omega)
  have H1 := Lib.hid (H.out.fr hfr (fun _ _ hb => hb))
  obtain ⟨h0', h1', h2', h3', h4', h5'⟩ := H1.out.cells
  clear h0 h1 h2 h3 h4 h5
  rw [Hd.out] at h5'
  have fn := H1.out.bnow.frozen i
  have cn : w1.cell? ⟨nb, i, none⟩ = some (nv[i]'hin) := by rw [H1.out.bnow.cell i]; simp
  have hwl' : Hid (ws.length < 4000000000) := by show _ < _; rw [H.out.waits.1]; exact hwl
  clear hwl
  have hownW : Hid (((w1.setCell ⟨nb, i, none⟩ (.slice (some ⟨g, 0, none⟩) 64 cap)).alloc (.cells #[.int .i64 i, .slice (some ⟨g, 0, none⟩) 64 cap] 65)).ownsRow 0 65 2 wv ws.length (waitCells ws)) :=
    (own_set H1.out.own H1.out.bnow (by decide)).alloc _
  have c2 : Hid (∀ j u, [Value.int .i64 i, .slice (some ⟨g, 0, none⟩) 64 cap][j]? = some u → ((w1.setCell ⟨nb, i, none⟩ (.slice (some ⟨g, 0, none⟩) 64 cap)).alloc (.cells #[.int .i64 i, .slice (some ⟨g, 0, none⟩) 64 cap] 65)).cell? ((⟨w1.heap.size, 0, none⟩ : Addr).add j) = some u) := by
    intro j u hu
    have hb := Blk.new (w1.setCell ⟨nb, i, none⟩ (.slice (some ⟨g, 0, none⟩) 64 cap)) 65 #[.int .i64 i, .slice (some ⟨g, 0, none⟩) 64 cap]
    rw [show (w1.setCell ⟨nb, i, none⟩ (.slice (some ⟨g, 0, none⟩) 64 cap)).heap.size = w1.heap.size from by simp [World.setCell]] at hb
    have hj := World.news_of_block hb
    exact hj j u (by simpa using hu)
  have c3 : Hid (ws.length + 1 ≤ maxLen) := by show _ ≤ _; have := hwl'.out; unfold maxLen; omega
  have c4 : Hid ((ws.length + 1) * 32 ≤ 140737488355328) := by show _ ≤ _; have := hwl'.out; omega
  have Hown := Lib.hid hown
  clear hown hne
  go_wp2_with (at_builtin; go_must (refine wpList_append_own_at _ rfl (.tmp 41) (.tmp 45) 48 rfl 0 65 i0 (.agg #[.int .i64 0, .slice none 0 0]) 2 32 Tryd.underlying48 hi0 hz0 hz1 hz2 rfl (by decide) wv ws.length (waitCells ws) rfl hownW.out ⟨w1.heap.size, 0, none⟩ 1 1 [.int .i64 i, .slice (some ⟨g, 0, none⟩) 64 cap] rfl rfl c2.out (by simp [Value.oneCell']) c3.out c4.out (Nat.zero_le _) ?_); intro v' w2 hown' hg2 hn0 hat; obtain ⟨g2, cap2, rfl, hg2lo, hg2lt⟩ := hown'.form (by omega); have HG := Lib.hid hg2; have HO := Lib.hid hown'; have HA := Lib.hid hat; clear hn0 hg2 hown' hat; have hb2 := ((H1.out.blk.far (p := ⟨nb, i, none⟩) hpn (.slice (some ⟨g, 0, none⟩) 64 cap)).alloc (.cells #[.int .i64 i, .slice (some ⟨g, 0, none⟩) 64 cap] 65)).grown HG.out (Blk.own_ne H1.out.blk H1.out.own (by decide)); have k2 : w2.cell? ⟨p, 2, none⟩ = some wv := hb2.cell 2; have k3 : w2.cell? ⟨p, 3, none⟩ = some (.int .i64 S.writes) := hb2.cell 3; have q2 := hb2.frozen 2; have q3 := hb2.frozen 3; clear hb2)
  obtain ⟨hD, hF⟩ := write_shape H1.out w.heap.size g cap i s hi Hs.out (fun b hb => H.out.lt b hb) Hown.out _ HG.out HO.out (by simpa [World.setCell] using HA.out) hfr.size _ rfl
  have HF := Lib.hid hF
  clear hF
  refine (burn_at hD).mono ?_
  clear hD
  rintro e w5 ⟨rfl, hD5, hf5⟩
  have HD5 := Lib.hid hD5
  have Hf5 := Lib.hid hf5
  clear hD5 hf5
  go_wp2
  go_ret
  have hfin : FrD R w w5 := (FrD.step (R := R) hfr (fun _ h => h.elim) HF.out (fun _ _ h => h)).step' Hf5.out (fun b _ e => by subst e; exact ⟨H.out.rp, not_u8 H.out.blk (by decide)⟩)
  have hsz := Hf5.out.size
  refine ⟨rfl, ⟨_, _, _, _, _, _, HD5.out.more (R' := Ext R w w5) ?_ ?_⟩, hfin⟩
  · rintro b (hb | ⟨hb, hb2⟩)
    · exact .inl hb
    · exact .inr ⟨hb, by omega⟩
  · rintro b (hb | hb)
    · have := H.out.lt b hb; have := hfin.fr.size; omega
    · exact hb.2

theorem Write_good (i : Nat) (a : Addr) (c : Nat) (s : List UInt8) (h : DiskOk R w p S) (hi : i < S.now.length) (hd : S.dead = false) (hs : s.length = 64)
    (hc : ∀ j u, (bts s)[j]? = some u → w.cell? (a.add j) = some u) (ha : a.block < w.heap.size) (hwl : S.waits.length < 4000000000) :
    Calls Tryd.prog 29 #[.pointer (some ⟨p, 0, none⟩), .int .i64 i, .slice (some a) 64 c] w fun e w' => e = .returned (.int .i64 0) ∧ DiskOk (Ext R w w') w' p (S.wr i s) ∧ Fr R w w' :=
  (Write_goodD i a c s h hi hd hs hc ha hwl).mono (fun _ _ h => ⟨h.1, h.2.1, FrD.fr h.2.2⟩)

end
end Go.Proofs.YtilclfeaolhoeaaDoor
