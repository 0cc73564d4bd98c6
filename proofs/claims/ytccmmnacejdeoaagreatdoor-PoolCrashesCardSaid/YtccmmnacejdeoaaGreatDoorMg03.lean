/-
  Disk5, Disk6, Disk7, Disk8, in one text.
-/
import Derived.Test.YtccmmnacejdeoaaGreatDoorMg02
import Derived.Deep.OwnRows
import Derived.RegionTactic
import Derived.BigRegion
import Derived.RangeFuncWrites
import Derived.RangeFuncNested
import Derived.RangeFuncBound
import Derived.RangeFuncCalls
import Derived.RangeFuncLeaves
import Derived.Shelf.Abstract
import Derived.Shelf.RegionOpen
import Derived.WalkKit
import Derived.OwnWalkIn
import Derived.TacticsInMore
import Derived.LoopNIn
import Derived.LoopIn
import Derived.Maps.OwnIn
/-
  What Read, Nought and Sector make.
-/
namespace Go.Proofs.YtccmmnacejdeoaaGreatDoor
set_option linter.unusedSimpArgs false
set_option linter.unusedVariables false
open Go.RowKit

def zeros64 : Array Value := madeCells #[.int .u8 0] 64
theorem zeros64_eq : zeros64 = (bts nought).toArray := by
  rw [zeros64, madeCells_toArray]; simp [bts, nought]

theorem make64 (w : World) : (Instr.makeSlice 38 (.int .i64 64) (.int .i64 64)).run Tryz.prog w = .ok (.slice (some ⟨w.heap.size, 0, none⟩) 64 64) (w.alloc (.cells zeros64 5)) :=
  run_make_row' (P := Tryz.prog) 38 5 (.int .u8 0) 1 Tryz.underlying38 info_u8 rfl .i64 .i64 64 (by omega) (by omega) w

section
variable {R : Nat → Prop} {w : World} {p : Nat} {S : DS}

theorem Read_bad (i : Int) (h : DiskOk R w p S) (hb : S.wrong i ≠ 0) :
    Calls Tryz.prog 57 #[.pointer (some ⟨p, 0, none⟩), .int .i64 i] w fun e w' => e = .returned (.tuple #[.slice none 0 0, .int .i64 (S.wrong i)]) ∧ w = w' := by
  have hb' : (S.wrong i != 0) = true := by simpa using hb
  have hw := (wrong_any (w := w) i h)
  have HW := Lib.hid hw
  clear hw h hb
  generalize S.wrong i = e0 at *
  go_enter Tryz.func57, Tryz.ntmps57
  go_wp2_with (go_at_call 80; refine HW.out.mono ?_; rintro e w' ⟨rfl, rfl⟩)
  go_ret2
  exact ⟨rfl, rfl⟩

set_option maxHeartbeats 400000 in
set_option maxRecDepth 100000 in
theorem Read_good (i : Nat) (s : List UInt8) (h : DiskOk R w p S) (hd : S.dead = false) (hs : S.now[i]? = some s) :
    Calls Tryz.prog 57 #[.pointer (some ⟨p, 0, none⟩), .int .i64 i] w fun e w' => e = .returned (.tuple #[.slice (some ⟨w.heap.size, 0, none⟩) 64 64, .int .i64 0]) ∧ Blk w' w.heap.size 5 (bts s).toArray ∧ Fr Nob w w' := by
  have hw := wrong_any (w := w) i h
  have hi : i < S.now.length := (List.getElem?_eq_some_iff.1 hs).1
  rw [show S.wrong i = 0 from by unfold DS.wrong; rw [if_neg (by omega), hd]; rfl] at hw
  have HW := Lib.hid hw
  obtain ⟨nb, lb, nv, lv, wv, ws, h⟩ := h
  obtain ⟨h0, h1, h2, h3, h4, h5⟩ := h.cells
  have hi' : i < nv.length := Nat.lt_of_lt_of_le hi h.now.1
  have hsec := h.now.2 i _ s (List.getElem?_eq_getElem hi') hs
  have hpl : p < w.heap.size := h.blk.lt
  have hnl : nb < w.heap.size := h.bnow.lt
  have cn : w.cell? ⟨nb, i, none⟩ = some (nv[i]'hi') := by rw [h.bnow.cell i]; simp
  have H := Lib.hid h
  clear hw h hs hd
  generalize nv[i] = v at *
  have hmk := make64
  have hlen := hsec.1
  have Hlen := Lib.hid hlen
  clear hlen
  have hcur : Hid (((w.alloc (.cells zeros64 5)).heap[w.heap.size]? = some (.cells (bts nought).toArray 5 (0, 0)))) := by
    show _ = _
    rw [← zeros64_eq]; exact heap_alloc_new w _
  have hinf : (Tryz.prog.info? 5).map (·.size) = some 1 := by kernel_rfl
  have HF := Lib.hid ((Below.refl w.heap.size w).alloc (Nat.le_refl _) (.cells zeros64 5))
  rcases hsec.2 with ⟨rfl, rfl⟩ | ⟨hown, hR⟩
  · clear hsec
    go_enter Tryz.func57, Tryz.ntmps57
    go_wp2_with (first
      | (go_at_call 80; refine HW.out.mono ?_; rintro e w' ⟨rfl, rfl⟩)
      | (with_reducible refine wpList_copy_nothing rfl (.tmp 15) (.tmp 22) 38 38 rfl 5 Tryz.underlying38 hinf _ _ _ _ _ _ rfl rfl rfl ?_))
    go_ret2
    exact ⟨rfl, hcur.out, Fr.of_below HF.out⟩
  · obtain ⟨g, cap, rfl, _, hglt⟩ := hown.form (by omega)
    have hsrc : Hid (∀ j u, (bts s)[j]? = some u → (w.alloc (.cells zeros64 5)).cell? ((⟨g, 0, none⟩ : Addr).add j) = some u) := by
      intro j u hu
      rw [World.cell?_alloc_lt _ _ _ (by unfold Addr.add; split <;> exact hglt)]
      exact hown.cells (g := g) rfl j u hu
    clear hsec hown
    have hn : Hid ((bts s).length = Nat.min 64 64) := by show _ = _; rw [bts_length, Hlen.out]; rfl
    have hfit : Hid (0 + (bts s).length ≤ (bts nought).length) := by show _ ≤ _; rw [bts_length, bts_length, Hlen.out]; simp [nought]
    go_enter Tryz.func57, Tryz.ntmps57
    go_wp2_with (first
      | (go_at_call 80; refine HW.out.mono ?_; rintro e w' ⟨rfl, rfl⟩)
      | (with_reducible refine wpList_copy_splice rfl (.tmp 15) (.tmp 22) 38 38 rfl 5 Tryz.underlying38 hinf (some ⟨w.heap.size, 0, none⟩) (some ⟨g, 0, none⟩) 64 64 64 cap rfl rfl w.heap.size 0 (bts nought) 5 hcur.out (bts s) hn.out (fun _ => ⟨rfl, _, rfl, hsrc.out⟩) hfit.out (bts_one s) w.heap.size w HF.out (Nat.le_refl _) ?_
         intro w3 hg3 hb3
         have HB3 := Lib.hid hb3
         clear hb3))
    go_ret2
    refine ⟨rfl, ?_, Fr.of_below HB3.out⟩
    have := hg3.out
    rwa [show splice (bts nought) 0 (bts s) = bts s from by simp [splice, bts_length, Hlen.out, nought]] at this

end

/-- 'string(b)' where b's row is known. -/
theorem conv_own {w : World} {base n cap : Nat} {a : Addr} {s : List UInt8} (h : w.ownsRow base 5 1 (.slice (some a) n cap) n (bts s)) :
    (convert 38 9 (.slice (some a) n cap)).run Tryz.prog w = .ok (.string ⟨s.toArray⟩) w := by
  have hl : s.length = n := by have := h.1; rw [bts_length] at this; omega
  obtain ⟨g, e⟩ : ∃ g, a = ⟨g, 0, none⟩ := by
    rcases h.2 with ⟨e, _⟩ | ⟨g, cap', cur, e, _⟩
    · cases e
    · injection e with e; injection e with e; exact ⟨g, e⟩
  subst e
  have hc := h.cells (g := g) rfl
  subst hl
  refine run_convert_bytes_back (P := Tryz.prog) w 38 9 5 ⟨g, 0, none⟩ cap s Tryz.underlying38 Tryz.underlying5 Tryz.underlying9 (fun j hj => hc j _ ?_)
  rw [bts_get]; simp [hj]

theorem own_of_blk {w : World} {g : Nat} {t : TypeId} {xs : List Value} (h : Blk w g t xs.toArray) (hm : xs.length ≤ maxLen) : w.ownsRow 0 t 1 (.slice (some ⟨g, 0, none⟩) xs.length xs.length) xs.length xs :=
  ⟨by omega, .inr ⟨g, _, _, rfl, Nat.zero_le _, h, Nat.le_refl _, hm, by simp, by simp⟩⟩

theorem bts_own {w : World} {g : Nat} {s : List UInt8} (h : Blk w g 5 (bts s).toArray) (hs : s.length = 64) : w.ownsRow 0 5 1 (.slice (some ⟨g, 0, none⟩) 64 64) 64 (bts s) := by
  have := own_of_blk h (by rw [bts_length, hs]; decide)
  rwa [bts_length, hs] at this

end Go.Proofs.YtccmmnacejdeoaaGreatDoor

/-
  What Flush does.
-/
namespace Go.Proofs.YtccmmnacejdeoaaGreatDoor
set_option linter.unusedSimpArgs false
set_option linter.unusedVariables false
open Go.RowKit

def DS.flush (S : DS) : DS := S.flush0.burn

section
variable {R : Nat → Prop} {w : World} {p : Nat} {S : DS}

theorem Flush_dead (h : DiskOk R w p S) (hd : S.dead = true) :
    Calls Tryz.prog 42 #[.pointer (some ⟨p, 0, none⟩)] w fun e w' => e = .returned (.int .i64 50) ∧ w = w' := by
  obtain ⟨nb, lb, nv, lv, wv, ws, h⟩ := h
  obtain ⟨h0, h1, h2, h3, h4, h5⟩ := h.cells
  rw [hd] at h5
  clear h hd
  go_enter Tryz.func42, Tryz.ntmps42
  go_wp2
  go_ret
  exact ⟨rfl, rfl⟩

set_option maxHeartbeats 800000 in
theorem Flush_goodD (h : DiskOk R w p S) (hd : S.dead = false) (hwl : S.waits.length < 4000000000) :
    Calls Tryz.prog 42 #[.pointer (some ⟨p, 0, none⟩)] w fun e w' => e = .returned (.int .i64 0) ∧ DiskOk R w' p S.flush ∧ FrD R w w' := by
  obtain ⟨nb, lb, nv, lv, wv, ws, h⟩ := h
  obtain ⟨h0, h1, h2, h3, h4, h5⟩ := h.cells
  rw [hd] at h5
  have hwl' : Hid (ws.length < 4000000000) := by show _ < _; rw [h.waits.1]; exact hwl
  obtain ⟨A, c, rfl⟩ : ∃ A c, wv = .slice A ws.length c := by
    rcases h.own.2 with ⟨e, e2⟩ | ⟨g, cap, cur, e, _⟩
    · rw [e2]; exact ⟨_, _, e⟩
    · exact ⟨_, _, e⟩
  have H := Lib.hid h
  clear h hwl
  go_enter Tryz.func42, Tryz.ntmps42
  go_wp2

  go_loopw [4, 14] (fun _ v wr => ∃ k : Nat, k ≤ ws.length ∧ v = .int .i64 k ∧ Hid (Fr (fun b => b = lb) w wr) ∧ Hid (Blk wr lb 38 (setAll lv (ws.take k)).toArray)) (fun _ v _ => ws.length - (intOf v).toNat)
  case atStart => exact ⟨0, by omega, rfl, Fr.refl _ _, by show Blk _ _ _ _; have := H.out.blast; simpa [setAll] using this⟩
  case round =>
    obtain ⟨k, hk, rfl, hf, hb⟩ := hrel
    have hwlO : ws.length < 4000000000 := hwl'.out
    by_cases hlt : k < ws.length
    · obtain ⟨g, cap, e, _, hglt⟩ := H.out.own.form (by omega)
      injection e with e1 e2 e3
      subst e1 e3
      clear e2
      have hx := waitCells_get ws k hlt
      have hxn : ws[k].1 < S.now.length := (H.out.waits.2 k ws[k] _ (List.getElem?_eq_getElem hlt) (List.getElem?_eq_getElem (by rw [← H.out.waits.1]; exact hlt))).2.1
      have hgl : ¬ g = lb := fun e => Blk.own_ne H.out.blast H.out.own (by decide) (by subst e; rfl)
      have hownr := own_fr H.out.own hf.out (fun k hk e => hgl (by subst e; simpa [Value.ownBlock] using hk))
      have c0 := hownr.cellAt (k * 2) (by omega)
      have c1 := hownr.cellAt (k * 2 + 1) (by omega)
      rw [hx.1] at c0
      rw [hx.2] at c1
      have hbp := H.out.blk.fr hf.out (Blk.ne_ H.out.blk H.out.blast (by decide))
      have d1 : wr.cell? ⟨p, 1, none⟩ = some (.slice (some ⟨lb, 0, none⟩) S.now.length lv.length) := hbp.cell 1
      have fl := hb.out.frozen ws[k].1
      obtain ⟨v0, cl⟩ : ∃ v0, wr.cell? ⟨lb, ws[k].1, none⟩ = some v0 := by
        rw [hb.out.cell]
        have : ws[k].1 < (setAll lv (ws.take k)).length := by rw [setAll_length]; have h1 := H.out.last.1; have h2 := H.out.llen; omega
        exact ⟨_, by rw [List.getElem?_toArray]; exact List.getElem?_eq_getElem this⟩
      have hpl := hbp.lt
      have hll := hb.out.lt
      clear hx hbp hownr
      have hk5 := setAll_take lv ws k hlt
      have HK := Lib.hid hk5
      clear hk5
      have hxs := (H.out.waits.2 k ws[k] _ (List.getElem?_eq_getElem hlt) (List.getElem?_eq_getElem (by rw [← H.out.waits.1]; exact hlt))).2.2.form
      generalize ws[k] = x at *
      obtain ⟨xi, xv⟩ := x
      obtain ⟨A2, n2, c2, hxs⟩ := hxs
      dsimp only at hxs
      subst hxs
      dsimp only at *
      go_wp2
      go_region
      go_wp2
      go_roundw
      case rel =>
        refine ⟨k + 1, by omega, by go_num, ((hf.out.setCell (p := ⟨lb, xi, none⟩) (.inr rfl) _).alloc _).drew, ?_⟩
        have h2 := ((hb.out.set_ xi (.slice A2 n2 c2)).alloc (.cells #[.int .i64 xi, .slice A2 n2 c2] 103)).drew
        rw [List.setIfInBounds_toArray, ← HK.out] at h2
        exact h2
      case measure => simp [intOf]; omega
    · obtain rfl : k = ws.length := by omega
      have hbp := H.out.blk.fr hf.out (Blk.ne_ H.out.blk H.out.blast (by decide))
      have d2 : wr.cell? ⟨p, 2, none⟩ = some (.slice A ws.length c) := hbp.cell 2
      have fp := hbp.frozen 2
      clear hbp
      have hb' := hb.out
      rw [List.take_length] at hb'
      have HB := Lib.hid hb'
      clear hb'
      go_wp2_with fail
      obtain ⟨hD, hF⟩ := flush_shape H.out hf.out HB.out _ rfl
      have HF := Lib.hid hF
      clear hF
      refine (burn_at hD).mono ?_
      clear hD
      rintro e w5 ⟨rfl, hD5, hf5⟩
      have HD5 := Lib.hid hD5
      have Hf5 := Lib.hid hf5
      clear hD5 hf5
      go_wp2
      go_ret
      exact ⟨rfl, ⟨_, _, _, _, _, _, HD5.out⟩, HF.out.step' Hf5.out (fun b _ e => by subst e; exact ⟨H.out.rp, not_u8 H.out.blk (by decide)⟩)⟩


end
end Go.Proofs.YtccmmnacejdeoaaGreatDoor

/-
  The iterator of a disk's kept writes: kept, and the closure that it hands back.
-/
namespace Go.Proofs.YtccmmnacejdeoaaGreatDoor
set_option linter.unusedSimpArgs false
set_option linter.unusedVariables false
open Go.RowKit Go.Shelf
attribute [local go_sem] Oper.semAt_some

/-- What the rounds keep: all cells and maps, but those of one block. -/
structure KK (lb : Nat) (w w' : World) : Prop where
  size : w.heap.size ≤ w'.heap.size
  same : ∀ k o, k ≠ lb → w.heap[k]? = some o → (o.isCells = true ∨ o.isWalk = true) → w'.heap[k]? = some o
theorem KK.refl (lb : Nat) (w : World) : KK lb w w := ⟨Nat.le_refl _, fun _ _ _ h _ => h⟩
theorem KK.trans {lb : Nat} {a b c : World} (h : KK lb a b) (k : KK lb b c) : KK lb a c := ⟨Nat.le_trans h.size k.size, fun i o hi ho ht => k.same i o hi (h.same i o hi ho ht) ht⟩
theorem KK.of_grown {lb : Nat} {w w' : World} {row : Option Nat} (hg : w.grownBy w' row) (hr : ∀ r, row = some r → r = lb) : KK lb w w' :=
  ⟨hg.size, fun k o hk ho _ => by
    have hlt : k < w.heap.size := (Array.getElem?_eq_some_iff.1 ho).1
    exact (hg.block k hlt (fun e => hk (hr k e.symm))).trans ho⟩
theorem KK.alloc {lb : Nat} {a w : World} (h : KK lb a w) (o : Obj) : KK lb a (w.alloc o) := h.trans (.of_grown (World.grownBy_alloc w o none) (fun r e => by cases e))
theorem KK.drew {lb : Nat} {a w : World} (h : KK lb a w) : KK lb a w.drew := ⟨h.size, h.same⟩
theorem KK.putObj {lb : Nat} {W : World} {l : Nat} {o : Obj} (o' : Obj) (hl : W.heap[l]? = some o) (h1 : o.isCells = false) (h2 : o.isWalk = false) : KK lb W (W.putObj l o') :=
  ⟨by simp, fun k o2 _ ho ht => by
    have hk : k ≠ l := by
      rintro rfl
      rw [hl] at ho
      injection ho with ho
      subst ho
      rw [h1, h2] at ht
      simp at ht
    exact (World.putObj_heap_other hk).trans ho⟩
theorem Blk.kk {lb g : Nat} {w w' : World} {t : TypeId} {cs : Array Value} (h : Blk w g t cs) (hk : KK lb w w') (hg : g ≠ lb) : Blk w' g t cs := hk.same g _ hg h (.inl rfl)
theorem own_kk {lb : Nat} {w w' : World} {base : Nat} {e : TypeId} {size n : Nat} {v : Value} {xs : List Value} (h : w.ownsRow base e size v n xs) (hk : KK lb w w') (hv : ∀ g, v.ownBlock = some g → g ≠ lb) : w'.ownsRow base e size v n xs := by
  refine ⟨h.1, ?_⟩
  rcases h.2 with h2 | ⟨g, cap, cur, rfl, hg, hh, r⟩
  · exact .inl h2
  · exact .inr ⟨g, cap, cur, rfl, hg, hk.same g _ (hv g rfl) hh (.inl rfl), r⟩
theorem map_kk {H : Type} {P : Program} {k : TypeId} {R : Value → Option (DataW H × List MemPlace)} {b n lb : Nat} {D : DataW H} {w w' : World} (h : w.ownsMap P k R b n D) (hk : KK lb w w') (hb : b ≠ lb) : w'.ownsMap P k R b n D := by
  obtain ⟨es, clock, hh, r⟩ := h
  exact ⟨es, clock, hk.same b _ hb hh (.inr rfl), r⟩
theorem cell_kk {lb : Nat} {w w' : World} {a : Addr} {v : Value} (h : w.cell? a = some v) (hk : KK lb w w') (ha : a.block ≠ lb) : w'.cell? a = some v := by
  unfold World.cell? at h ⊢
  cases ho : w.heap[a.block]? with
  | none => rw [ho] at h; cases h
  | some o =>
    rw [ho] at h
    cases o with
    | cells c t f => rw [hk.same _ _ ha ho (.inl rfl)]; exact h
    | _ => cases h

/-- What the numbers in keep choose of a list. -/
def chosen {β : Type} (keep : List Int) (l : List β) : List β := (l.zipIdx.filter fun x => decide ((x.2 : Int) ∈ keep)).map (·.1)
theorem chosen_snoc {β : Type} (keep : List Int) (l : List β) (x : β) : chosen keep (l ++ [x]) = chosen keep l ++ (if (l.length : Int) ∈ keep then [x] else []) := by
  unfold chosen
  rw [List.zipIdx_append, List.filter_append, List.map_append]
  congr 1
  by_cases h : (l.length : Int) ∈ keep <;> simp [List.filter_cons, h]
theorem chosen_map {β γ : Type} (keep : List Int) (f : β → γ) (l : List β) : chosen keep (l.map f) = (chosen keep l).map f := by
  unfold chosen
  rw [List.zipIdx_map, List.filter_map, List.map_map, List.map_map]
  rfl
theorem chosen_length {β : Type} (keep : List Int) (l : List β) : (chosen keep l).length ≤ l.length := by
  unfold chosen
  rw [List.length_map]
  refine Nat.le_trans (List.length_filter_le _ _) ?_
  simp
theorem chosen_take {β : Type} (keep : List Int) (l : List β) (k : Nat) (h : k < l.length) : chosen keep (l.take (k + 1)) = chosen keep (l.take k) ++ (if (k : Int) ∈ keep then [l[k]] else []) := by
  rw [List.take_add_one, List.getElem?_eq_getElem h]
  show chosen keep (l.take k ++ [l[k]]) = _
  rw [chosen_snoc, List.length_take, Nat.min_eq_left (by omega)]

theorem chosen_prefix {β : Type} (keep : List Int) (l : List β) (k : Nat) : chosen keep (l.take k) <+: chosen keep l := by
  have h : ∀ a b : List β, chosen keep a <+: chosen keep (a ++ b) := by
    intro a b
    unfold chosen
    rw [List.zipIdx_append, List.filter_append, List.map_append]
    exact List.prefix_append _ _
  have := h (l.take k) (l.drop k)
  rwa [List.take_append_drop] at this

/-- The set of the numbers in keep, as a map. -/
def seenD (keep : List Int) : DataW Unit := keep.foldl (fun D x => D.put (.int .i64 x) (.lit (.bool true))) (.map [])
theorem seenD_snoc (l : List Int) (x : Int) : seenD (l ++ [x]) = (seenD l).put (.int .i64 x) (.lit (.bool true)) := by simp [seenD]
theorem seenD_at (l : List Int) (i : Int) : (seenD l).atKey (.int .i64 i) (.lit (.bool false)) = .lit (.bool (decide (i ∈ l))) := by
  have hm : ∀ l : List Int, Maps.IsMap (seenD l) := by
    intro l
    unfold seenD
    suffices h : ∀ (D : DataW Unit), Maps.IsMap D → Maps.IsMap (l.foldl (fun D x => D.put (.int .i64 x) (.lit (.bool true))) D) from h _ Maps.isMap_empty
    induction l with
    | nil => exact fun D h => h
    | cons x l ih => exact fun D h => ih _ (h.put _ _)
  suffices h : ∀ l : List Int, (seenD l.reverse).atKey (.int .i64 i) (.lit (.bool false)) = .lit (.bool (decide (i ∈ l))) by
    have := h l.reverse
    rw [List.reverse_reverse] at this
    rw [this]; simp
  intro l
  induction l with
  | nil => rfl
  | cons x l ih =>
    rw [List.reverse_cons, seenD_snoc]
    by_cases h : i = x
    · subst h
      rw [Maps.atKey_put_same (hm _) (show WideAt.IsKeyLit (.int .i64 i) from trivial)]
      simp
    · rw [Maps.atKey_put_other (by intro e; injection e with _ e; exact h e), ih]
      simp [h]

theorem plainElem_bool_is {P : Program} {e : TypeId} (he : P.underlying e = some .bool) {v : Value} {c : Bool} {ps : List MemPlace} (h : plainElem (H := Unit) P e v = some (.lit (.bool c), ps)) : v = .bool c := by
  unfold plainElem at h
  rw [he] at h
  cases v <;> simp at h ⊢
  exact h.1

theorem lookup_seen {w : World} {b n : Nat} {keep : List Int} (h : w.ownsMap (H := Unit) Tryz.prog 3 (plainElem Tryz.prog 4) b n (seenD keep)) (i : Int) (hi : (Lit.int .i64 i).wf = true) :
    (Instr.lookup 120 (.map (some b)) (.int .i64 i) false).run Tryz.prog w = .ok (.bool (decide (i ∈ keep))) w := by
  obtain ⟨v, ps, hrun, hv⟩ := h.lookup (Maps.int_keyed Tryz.underlying3) Tryz.underlying120 (Tryz.zeroValue4 w) (plainElem_bool Tryz.underlying4 false) (Maps.keyOf_int_mk Tryz.underlying3 hi)
  rw [seenD_at] at hv
  obtain rfl := plainElem_bool_is Tryz.underlying4 hv
  exact hrun

end Go.Proofs.YtccmmnacejdeoaaGreatDoor

/-
  The closure that kept hands back, walked: it yields the chosen writes one by one.
-/
namespace Go.Proofs.YtccmmnacejdeoaaGreatDoor
set_option linter.unusedSimpArgs false
set_option linter.unusedVariables false
open Go.RowKit Go.Shelf
attribute [local go_sem] Oper.semAt_some

/-- A write that waits, fit to be stored again. -/
abbrev KW (n : Nat) := { x : Nat × Value // x.1 < n ∧ ∃ A m c, x.2 = .slice A m c }
def encK {n : Nat} (x : KW n) : Array Value := #[.agg #[.int .i64 x.1.1, x.1.2]]

/-- The ints of a slice that came in, none of them in block lb. -/
def Ints (lb : Nat) (w : World) (A : Option Addr) (keep : List Int) : Prop :=
  (∀ x ∈ keep, (Lit.int .i64 x).wf = true) ∧ (0 < keep.length → ∃ kb ko, A = some ⟨kb, ko, none⟩ ∧ kb ≠ lb ∧ ∀ j x, keep[j]? = some x → w.cell? ⟨kb, ko + j, none⟩ = some (.int .i64 x))
theorem Ints.kk {lb : Nat} {w w' : World} {A : Option Addr} {keep : List Int} (h : Ints lb w A keep) (hk : KK lb w w') : Ints lb w' A keep :=
  ⟨h.1, fun h0 => by
    obtain ⟨kb, ko, e, hne, hc⟩ := h.2 h0
    exact ⟨kb, ko, e, hne, fun j x hx => cell_kk (hc j x hx) hk hne⟩⟩
theorem Ints.at_ {lb : Nat} {w : World} {A : Option Addr} {keep : List Int} (h : Ints lb w A keep) (k : Nat) (hk : k < keep.length) : ∃ kb ko, A = some ⟨kb, ko, none⟩ ∧ kb ≠ lb ∧ w.cell? ⟨kb, ko + k, none⟩ = some (.int .i64 keep[k]) := by
  obtain ⟨kb, ko, e, hne, hc⟩ := h.2 (by omega)
  exact ⟨kb, ko, e, hne, hc k _ (List.getElem?_eq_getElem hk)⟩

set_option maxRecDepth 100000 in
set_option maxHeartbeats 2000000 in
theorem kept1_in (F : Fence) (n : Nat) (hfn : F.fn 62) (hro : F.round = none) (hn : 1 ≤ n) (l Bk Bd p lb N : Nat) (A : Option Addr) (c : Nat) (keep : List Int) (wv : Value) (ws : List (KW N)) (J Jx : List (KW N) → World → Prop)
    (hY : ∀ pre x W, J pre W → pre.length < ws.length → YieldAt F (n - 1) Tryz.prog l (encK x) W fun e W' =>
      (e = .returned (.bool true) ∧ J (pre ++ [x]) W' ∧ KK lb W W') ∨ (e = .returned (.bool false) ∧ Jx (pre ++ [x]) W'))
    (W : World) (hJ : AbidesFrom W.heap.size J) (hlb : lb < W.heap.size)
    (hBk : W.cell? ⟨Bk, 0, none⟩ = some (.slice A keep.length c)) (hBkl : Bk ≠ lb) (hBkz : Bk < W.heap.size)
    (hBd : W.cell? ⟨Bd, 0, none⟩ = some (.pointer (some ⟨p, 0, none⟩))) (hBdl : Bd ≠ lb) (hBdz : Bd < W.heap.size)
    (h2 : W.cell? ⟨p, 2, none⟩ = some wv) (hpl : p ≠ lb) (hpz : p < W.heap.size) (hreach : keep.length * 8 ≤ 140737488351232) (hwl : ws.length < 4000000000)
    (hkp : Ints lb W A keep) (hown : W.ownsRow 0 103 2 wv ws.length (waitCells (ws.map (·.1)))) (hwvl : ∀ g, wv.ownBlock = some g → g ≠ lb)
    (h0 : J [] W) :
    CallsIn F n Tryz.prog 62 #[.func (.yield l) #[] #[], .pointer (some ⟨Bk, 0, none⟩), .pointer (some ⟨Bd, 0, none⟩)] W fun e W' => (∃ v, e = .returned v) ∧
      ((∃ ys, ys = chosen keep ws ∧ J ys W') ∨ (∃ pre, pre <+: chosen keep ws ∧ Jx pre W')) := by
  have hmm := @run_makeMap Tryz.prog
  obtain ⟨wa, wc, rfl⟩ : ∃ A c, wv = .slice A ws.length c := by
    rcases hown.2 with ⟨e, e2⟩ | ⟨g, cap, cur, e, _⟩
    · rw [e2]; exact ⟨_, _, e⟩
    · exact ⟨_, _, e⟩
  have HKp := Lib.hid hkp
  have HOwn := Lib.hid hown
  have HWvl := Lib.hid hwvl
  have HY := Lib.hid hY
  have HJ := Lib.hid hJ
  have H0 := Lib.hid h0
  clear hkp hown hwvl hY hJ h0
  refine callsIn_of_wp Tryz.func62 rfl hfn ?_ hro
  simp only [Tryz.ntmps62, List.size_toArray, List.length_cons, List.length_nil, Nat.reduceAdd, Nat.reduceSub, Array.replicate_succ, Array.replicate_zero, List.push_toArray, List.append_toArray, List.nil_append, List.cons_append]
  gi_wp2
  gi_loopw [6, 12] (fun _ i wr => ∃ k : Nat, k ≤ keep.length ∧ i = .int .i64 k ∧ Hid (J [] wr) ∧ Hid (wr.ownsMap (H := Unit) Tryz.prog 3 (plainElem Tryz.prog 4) W.heap.size k (seenD (keep.take k))) ∧ Hid (Below W.heap.size W wr))
    (fun _ i _ => keep.length - (intOf i).toNat)
  case atStart =>
    exact ⟨0, Nat.zero_le _, rfl, HJ.out _ _ _ _ H0.out (World.grownBy_alloc W _ none) (fun r e => by cases e), World.ownsMap_made W _ _ _, (Below.refl _ W).alloc (Nat.le_refl _) _⟩
  case round =>
    obtain ⟨k, hk, rfl, hJs, hmp, hbl⟩ := hrel
    by_cases hlt : k < keep.length
    · obtain ⟨kb, ko, e, hkbl, hck⟩ := (Ints.at_ HKp.out k hlt)
      subst e
      have hck' : wr.cell? ⟨kb, ko + k, none⟩ = some (.int .i64 keep[k]) := (hbl.out.cell (p := ⟨kb, ko + k, none⟩) (cell_lt hck)).trans hck
      have hwf : (Lit.int .i64 keep[k]).wf = true := HKp.out.1 _ (List.getElem_mem hlt)
      have HSn : Hid (seenD (keep.take (k + 1)) = (seenD (keep.take k)).put (.int .i64 keep[k]) (.lit (.bool true))) := by
        show _ = _
        rw [← seenD_snoc, List.take_add_one, List.getElem?_eq_getElem hlt]; rfl
      have HWf := Lib.hid hwf
      clear hck hwf
      generalize keep[k] = x at *
      gi_wp2_with (gi_at_mapUpdate; refine wpListIn_mapUpdate_own _ rfl _ _ _ 120 rfl 3 4 (Maps.int_keyed Tryz.underlying3) Tryz.underlying120 _ W.heap.size k _ rfl hmp.out (by unfold maxLen; omega) _ _ _ rfl rfl (Maps.keyOf_int_mk Tryz.underlying3 HWf.out) _ [] (plainElem_bool Tryz.underlying4 true) ?_; intro w1 hown1 hgrow1; have HO1 := Lib.hid hown1; have HG1 := Lib.hid hgrow1; clear hown1 hgrow1)
      go_roundw
      case rel =>
        refine ⟨k + 1, by omega, by go_num, ?_, ?_, ?_⟩
        · obtain ⟨es, ck, hh, _⟩ := hmp.out
          exact HJ.out _ _ _ _ hJs.out HG1.out (fun r e => by cases e; exact ⟨Nat.le_refl _, _, hh, rfl⟩)
        · have := HO1.out
          rw [← HSn.out] at this
          exact this
        · exact hbl.out.grown HG1.out hbl.out.size (fun k e => by cases e; exact Nat.le_refl _)
      case measure => simp [intOf]; omega
    · obtain rfl : k = keep.length := by omega
      have hmp' := hmp.out
      rw [List.take_length] at hmp'
      have HM := Lib.hid hmp'
      clear hmp' hmp
      obtain ⟨W1, rfl⟩ : ∃ W1 : World, W1 = wr := ⟨_, rfl⟩
      have cBd : W1.cell? ⟨Bd, 0, none⟩ = some (.pointer (some ⟨p, 0, none⟩)) := (hbl.out.cell (p := ⟨Bd, 0, none⟩) hBdz).trans hBd
      have c2 : W1.cell? ⟨p, 2, none⟩ = some (.slice wa ws.length wc) := (hbl.out.cell (p := ⟨p, 2, none⟩) hpz).trans h2
      have HOr := Lib.hid (own_fr HOwn.out (Fr.of_belowB hbl.out) (fun g hg hge => by have := own_lt HOwn.out hg; omega))
      have hJ0 := hJs.out
      have HJ0 := Lib.hid hJ0
      have HBl := Lib.hid hbl.out
      have hzr : W.heap.size ≤ W1.heap.size := hbl.out.size
      clear hJ0 hbl
      gi_wp2
      gi_loopw [7, 8, 24] (fun _ _ i w2 => ∃ k : Nat, k ≤ ws.length ∧ i = .int .i64 k ∧ Hid (J (chosen keep (ws.take k)) w2) ∧ Hid (KK lb W1 w2))
        (fun _ _ i _ => ws.length - (intOf i).toNat)
      case atStart => exact ⟨0, Nat.zero_le _, rfl, HJ0.out, KK.refl _ _⟩
      case round =>
        obtain ⟨k, hk, rfl, hJk, hkk⟩ := hrel
        have hmp2 := map_kk HM.out hkk.out (by omega)
        by_cases hlt : k < ws.length
        · have hor := own_kk HOr.out hkk.out (fun g hg => HWvl.out g hg)
          obtain ⟨g, cap, e, _, hglt⟩ := hor.form (by omega)
          injection e with e1 e2 e3
          subst e1 e3
          clear e2
          have hx := waitCells_get (ws.map (·.1)) k (by simpa using hlt)
          have c0 := hor.cellAt (k * 2) (by omega)
          have c1 := hor.cellAt (k * 2 + 1) (by omega)
          rw [hx.1] at c0
          rw [hx.2] at c1
          have HCt := Lib.hid (chosen_take keep ws k hlt)
          have HLn : Hid ((chosen keep (ws.take k)).length < ws.length) := by
            show _ < _
            have := chosen_length keep (ws.take k)
            rw [List.length_take] at this
            omega
          simp only [List.getElem_map] at c0 c1
          clear hx hor
          generalize ws[k] = x at *
          obtain ⟨⟨xi, xv⟩, hxi, A2, n2, c2', hxv⟩ := x
          dsimp only at hxv
          subst hxv
          dsimp only at c0 c1
          have hmp3 : ((wr.alloc (.cells #[.int .i64 xi, .slice A2 n2 c2'] 103))).ownsMap (H := Unit) Tryz.prog 3 (plainElem Tryz.prog 4) W.heap.size keep.length (seenD keep) := hmp2.kept (World.grownBy_alloc _ _ none) (fun e => by cases e)
          have hlk := lookup_seen hmp3 k (wf_i64 (by omega) (by omega))
          have hJ2 : J (chosen keep (ws.take k)) (wr.alloc (.cells #[.int .i64 xi, .slice A2 n2 c2'] 103)) := HJ.out _ _ _ _ hJk.out (World.grownBy_alloc _ _ none) (fun r e => by cases e)
          have HJ2 := Lib.hid hJ2
          clear hmp3 hmp2 hJ2
          by_cases hin : (k : Int) ∈ keep
          · rw [decide_eq_true hin] at hlk
            have HIn := Lib.hid hin
            clear hin
            obtain ⟨fn, tmps, assign, body, hy, hR⟩ := HY.out _ ⟨(xi, .slice A2 n2 c2'), hxi, A2, n2, c2', rfl⟩ _ HJ2.out HLn.out
            dsimp only [encK] at hy
            gi_wp2
            refine hR.mono ?_
            rintro e W3 (⟨rfl, hJ3, hk3⟩ | ⟨rfl, hJx3⟩)
            · gi_wp2
              go_roundw
              case rel =>
                refine ⟨k + 1, by omega, by go_num, ?_, (hkk.out.alloc _).trans hk3⟩
                show J _ _
                rw [HCt.out, if_pos HIn.out]
                exact hJ3
              case measure => simp [intOf]; omega
            · gi_wp2
              refine bodyPost_ret (results_none rfl _ _ _) rfl ?_
              refine ⟨⟨_, rfl⟩, .inr ⟨_, ?_, hJx3⟩⟩
              have := chosen_prefix keep ws (k + 1)
              rwa [HCt.out, if_pos HIn.out] at this
          · rw [decide_eq_false hin] at hlk
            have HIn := Lib.hid hin
            clear hin
            gi_wp2
            refine ⟨fun _ h => (by cases h), ?_⟩
            gi_wp2
            go_roundw
            case rel =>
              refine ⟨k + 1, by omega, by go_num, ?_, hkk.out.alloc _⟩
              show J _ _
              rw [HCt.out, if_neg HIn.out, List.append_nil]
              exact HJ2.out
            case measure => simp [intOf]; omega
        · obtain rfl : k = ws.length := by omega
          gi_wp2
          go_end0
          refine ⟨⟨_, rfl⟩, .inl ⟨_, rfl, ?_⟩⟩
          have := hJk.out
          rwa [List.take_length] at this

/-- kept boxes the disk and the numbers, and hands back its closure. -/
theorem kept_in (F : Fence) (n : Nat) (h45 : F.fn 36) (hro : F.round = none) (p : Value) (A : Option Addr) (m c : Nat) (w : World) (hp : ∃ a, p = .pointer a) :
    CallsIn F n Tryz.prog 36 #[p, .slice A m c] w fun e w' => e = .returned (.func (.func 62) #[] #[.pointer (some ⟨w.heap.size + 1, 0, none⟩), .pointer (some ⟨w.heap.size, 0, none⟩)]) ∧
      w' = (w.alloc (.cells #[p] 29)).alloc (.cells #[.slice A m c] 55) := by
  obtain ⟨a, rfl⟩ := hp
  refine callsIn_of_wp Tryz.func36 rfl h45 ?_ hro
  simp only [Tryz.ntmps36, List.size_toArray, List.length_cons, List.length_nil, Nat.reduceAdd, Nat.reduceSub, Array.replicate_succ, Array.replicate_zero, List.push_toArray, List.append_toArray, List.nil_append, List.cons_append]
  gi_wp2
  go_ret
  exact ⟨rfl, rfl⟩
end Go.Proofs.YtccmmnacejdeoaaGreatDoor
