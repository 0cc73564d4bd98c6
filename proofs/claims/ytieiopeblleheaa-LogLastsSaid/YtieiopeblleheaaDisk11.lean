/-
  What Copy does: another disk that stands for the same.
-/
import Derived.Test.YtieiopeblleheaaDisk10
namespace Go.Proofs.Ytieiopeblleheaa
set_option linter.unusedSimpArgs false
set_option linter.unusedVariables false
open Go.RowKit

/-- What a copy of a disk lies in: blocks that the copying made, and bytes of the old one, which neither ever writes. -/
def Cop (R : Nat → Prop) (w w' : World) : Nat → Prop := fun b => (w.heap.size ≤ b ∧ b < w'.heap.size) ∨ (R b ∧ ∃ cs, Blk w b 5 cs)

theorem take_cells {w : World} {g : Nat} {t : TypeId} {vs : List Value} {n : Nat} (h : Blk w g t vs.toArray) : ∀ j u, (vs.take n)[j]? = some u → w.cell? ((⟨g, 0, none⟩ : Addr).add j) = some u := by
  intro j u hj
  have := (List.getElem?_eq_some_iff.1 hj).1
  rw [List.length_take] at this
  rw [List.getElem?_take_of_lt (by omega)] at hj
  exact World.news_of_block h j u (by simpa using hj)
theorem Secs.one_take {R : Nat → Prop} {w : World} {vs : List Value} {ss : List (List UInt8)} (h : Secs R w vs ss) : ∀ u ∈ vs.take ss.length, u.oneCell' = true := by
  intro u hu
  obtain ⟨i, hi, rfl⟩ := List.mem_iff_getElem.1 hu
  rw [List.length_take] at hi
  rw [List.getElem_take]
  exact (h.2 i vs[i] _ (List.getElem?_eq_getElem (by omega)) (List.getElem?_eq_getElem (by omega))).one
theorem Waits.one_cells {R : Nat → Prop} {w : World} {n : Nat} {ws : List (Nat × Value)} {xs : List (Nat × List UInt8)} (h : Waits R w n ws xs) : ∀ u ∈ waitCells ws, u.oneCell' = true := by
  intro u hu
  simp only [waitCells, List.mem_flatMap, List.mem_cons, List.not_mem_nil, or_false] at hu
  obtain ⟨x, hx, hu⟩ := hu
  rcases hu with rfl | rfl
  · rfl
  · obtain ⟨i, hi, rfl⟩ := List.mem_iff_getElem.1 hx
    exact (h.2 i ws[i] _ (List.getElem?_eq_getElem hi) (List.getElem?_eq_getElem (by rw [← h.1]; exact hi))).2.2.one

/-- A clone of a row: the new block, its cells to the capacity. -/
theorem own_cells {w : World} {base : Nat} {t : TypeId} {g n cap : Nat} {xs : List Value} (h : w.ownsRow base t 1 (.slice (some ⟨g, 0, none⟩) n cap) n xs) :
    ∃ cur : List Value, Blk w g t cur.toArray ∧ cur.length = cap ∧ n ≤ cap ∧ cur.take n = xs ∧ base ≤ g := by
  rcases h.2 with ⟨e, _⟩ | ⟨g', cap', cur, e, hb, hh, hn, _, hs, ht⟩
  · cases e
  · injection e with e1 e2 e3
    injection e1 with e1
    injection e1 with e1
    subst e1 e3
    refine ⟨cur.toList, by simpa [Blk] using hh, by simpa using hs, hn, by simpa using ht, hb⟩
theorem copy_secs {R : Nat → Prop} {w w7 : World} {nv nv' : List Value} {ss : List (List UInt8)} (h : Secs R w nv ss) (hS : Fr Nob w w7) (hl : ss.length ≤ nv'.length) (ht : nv'.take ss.length = nv.take ss.length) : Secs (Cop R w w7) w7 nv' ss := by
  refine ⟨hl, fun i v s hv hs => ?_⟩
  have hi : i < ss.length := (List.getElem?_eq_some_iff.1 hs).1
  have e : nv[i]? = some v := by rw [← List.getElem?_take_of_lt hi, ← ht, List.getElem?_take_of_lt hi]; exact hv
  exact ((h.2 i v s e hs).u8s (R' := Cop R w w7) (fun b hb hu => .inr ⟨hb, hu⟩)).fr hS (fun _ _ _ h => h)
theorem copy_shape {R : Nat → Prop} {w w7 : World} {p nb lb q g1 g2 cap1 cap2 B1 B2 B3 : Nat} {nv lv : List Value} {wv v3 : Value} {ws : List (Nat × Value)} {S : DS} (H : DiskAt R w p nb lb nv lv wv ws S) (hq : w.heap.size ≤ q) (hS : Fr Nob w w7)
    (hb : Blk w7 q 74 #[.slice (some ⟨g1, 0, none⟩) S.now.length cap1, .slice (some ⟨g2, 0, none⟩) S.now.length cap2, v3, .int .i64 S.writes, .int .i64 S.fuse, .bool S.dead])
    (h1 : w7.ownsRow B1 29 1 (.slice (some ⟨g1, 0, none⟩) S.now.length cap1) S.now.length (nv.take S.now.length)) (h2 : w7.ownsRow B2 29 1 (.slice (some ⟨g2, 0, none⟩) S.now.length cap2) S.now.length (lv.take S.now.length))
    (h3 : w7.ownsRow B3 77 2 v3 ws.length (waitCells ws)) (b1 : w.heap.size ≤ B1) (b2 : w.heap.size ≤ B2) (b3 : w.heap.size ≤ B3) (hne : g1 ≠ g2) : DiskOk (Cop R w w7) w7 q S := by
  obtain ⟨c1, k1, l1, n1, t1, e1⟩ := own_cells h1
  obtain ⟨c2, k2, l2, n2, t2, e2⟩ := own_cells h2
  refine ⟨g1, g2, c1, c2, v3, ws, ?_⟩
  exact {
    blk := by rw [l1, l2]; exact hb
    bnow := k1
    blast := k2
    ne := hne
    own := own_base h3 (fun _ _ => Nat.zero_le _)
    rp := .inl ⟨hq, hb.lt⟩
    rn := .inl ⟨by omega, k1.lt⟩
    rl := .inl ⟨by omega, k2.lt⟩
    rw := fun g hg => .inl (by have := h3.lt g hg; omega)
    lt := fun b hb => by
      rcases hb with hb | ⟨_, cs, hcs⟩
      · exact hb.2
      · have := hcs.lt; have := hS.size; omega
    llen := H.llen
    pos := H.pos
    small := H.small
    now := copy_secs H.now hS (by omega) t1
    last := copy_secs H.last hS (by rw [H.llen]; omega) (by rw [H.llen]; exact t2)
    waits := ⟨H.waits.1, fun i x y hx hy => ⟨(H.waits.2 i x y hx hy).1, (H.waits.2 i x y hx hy).2.1, ((H.waits.2 i x y hx hy).2.2.u8s (R' := Cop R w w7) (fun b hb hu => .inr ⟨hb, hu⟩)).fr hS (fun _ _ _ h => h)⟩⟩
    fuse0 := H.fuse0
    fuse1 := H.fuse1 }

section
variable {R : Nat → Prop} {w : World} {p : Nat} {S : DS}

set_option maxHeartbeats 800000 in
set_option maxRecDepth 100000 in
theorem Copy_ok (h : DiskOk R w p S) (hwl : S.waits.length < 4000000000) :
    Calls Try.prog 21 #[.pointer (some ⟨p, 0, none⟩)] w fun e w' => ∃ p', e = .returned (.pointer (some ⟨p', 0, none⟩)) ∧ w.heap.size ≤ p' ∧ DiskOk (Cop R w w') w' p' S ∧ Fr Nob w w' := by
  obtain ⟨nb, lb, nv, lv, wv, ws, h⟩ := h
  obtain ⟨h0, h1, h2, h3, h4, h5⟩ := h.cells
  have hpl : p < w.heap.size := h.blk.lt
  obtain ⟨A, c, rfl⟩ : ∃ A c, wv = .slice A ws.length c := by
    rcases h.own.2 with ⟨e, e2⟩ | ⟨g, cap, cur, e, _⟩
    · rw [e2]; exact ⟨_, _, e⟩
    · exact ⟨_, _, e⟩
  have H := Lib.hid h
  have Hwl := Lib.hid hwl
  clear h hwl
  go_enter Try.func21, Try.ntmps21
  go_wp2
  obtain ⟨w1, hw1⟩ : ∃ w1, w.alloc (.cells #[.slice (some ⟨nb, 0, none⟩) S.now.length nv.length, .slice (some ⟨lb, 0, none⟩) S.now.length lv.length, .slice A ws.length c, .int .i64 S.writes, .int .i64 S.fuse, .bool S.dead] 74) = w1 := ⟨_, rfl⟩
  have hz1 : w1.heap.size = w.heap.size + 1 := by rw [← hw1]; simp
  have f1 : Fr Nob w w1 := by rw [← hw1]; exact (Fr.refl _ w).alloc _
  have b1 := Blk.new w 74 #[.slice (some ⟨nb, 0, none⟩) S.now.length nv.length, .slice (some ⟨lb, 0, none⟩) S.now.length lv.length, .slice A ws.length c, .int .i64 S.writes, .int .i64 S.fuse, .bool S.dead]
  rw [hw1] at b1
  rw [hw1]
  clear hw1
  have HB1 := Lib.hid b1
  clear b1 h0 h1 h3 h4 h5
  have hpos : 0 < S.now.length := H.out.pos
  have hsm : S.now.length ≤ 65536 := H.out.small
  have Hn1 : Hid ((nv.take S.now.length).length = S.now.length) := by show _ = _; have := H.out.now.1; rw [List.length_take]; omega
  have Hl1 : Hid ((lv.take S.now.length).length = S.now.length) := by show _ = _; have := H.out.last.1; have := H.out.llen; rw [List.length_take]; omega
  have Hno : Hid (∀ u ∈ nv.take S.now.length, u.oneCell' = true) := H.out.now.one_take
  have Hlo : Hid (∀ u ∈ lv.take S.now.length, u.oneCell' = true) := by have := H.out.last.one_take; rw [H.out.llen] at this; exact this
  have Hwo : Hid (∀ u ∈ waitCells ws, u.oneCell' = true) := H.out.waits.one_cells
  have Hwl2 : Hid (ws.length < 4000000000) := by show _ < _; rw [H.out.waits.1]; exact Hwl.out
  refine wp_region_quietly (fun W => Fr Nob w W) (by kernel_rfl) ?_
  have hS : Fr Nob w w1.drew := f1.drew
  refine wpAnyH_op (i := 0) (some 7) (v := ?v0) (a' := ?a0) rfl rfl (by kernel_rfl) (by kernel_rfl) (by kernel_rfl) (fun _ _ _ h => h) rfl (fun wz hz => ?h0) ?b0 hS ?_
  case h0 => (go_simp; try with_reducible rfl)
  case b0 => (simp only [Act.put, List.setIfInBounds_toArray, List.set_cons_zero, List.set_cons_succ]; rfl)
  refine wpAnyH_op (i := 1) (some 8) (v := ?v1) (a' := ?a1) rfl rfl (by kernel_rfl) (by kernel_rfl) (by kernel_rfl) (fun _ _ _ h => h) rfl (fun wz hz => ?h1) ?b1 hS ?_
  case h1 => (have hb := H.out.blk.fr hz (fun h => h); have hq := hb.lt; have d0 := hb.cell 0; have d1 := hb.cell 1; have d2 := hb.cell 2; simp only [List.getElem?_toArray, List.getElem?_cons_zero, List.getElem?_cons_succ] at d0 d1 d2; clear hb; go_simp; try with_reducible rfl)
  case b1 => (simp only [Act.put, List.setIfInBounds_toArray, List.set_cons_zero, List.set_cons_succ]; rfl)
  refine wpAnyH_op (i := 2) (some 9) (v := ?v2) (a' := ?a2) rfl rfl (by kernel_rfl) (by kernel_rfl) (by kernel_rfl) (fun _ _ _ h => h) rfl (fun wz hz => ?h2) ?b2 hS ?_
  case h2 => (go_simp; try with_reducible rfl)
  case b2 => (simp only [Act.put, List.setIfInBounds_toArray, List.set_cons_zero, List.set_cons_succ]; rfl)
  refine wpAnyH_op (i := 3) (some 10) (v := ?v3) (a' := ?a3) rfl rfl (by kernel_rfl) (by kernel_rfl) (by kernel_rfl) (fun _ _ _ h => h) rfl (fun wz hz => ?h3) ?b3 hS ?_
  case h3 => (have hb := H.out.blk.fr hz (fun h => h); have hq := hb.lt; have d0 := hb.cell 0; have d1 := hb.cell 1; have d2 := hb.cell 2; simp only [List.getElem?_toArray, List.getElem?_cons_zero, List.getElem?_cons_succ] at d0 d1 d2; clear hb; go_simp; try with_reducible rfl)
  case b3 => (simp only [Act.put, List.setIfInBounds_toArray, List.set_cons_zero, List.set_cons_succ]; rfl)
  refine wpAnyH_op (i := 5) (some 12) (v := ?v5) (a' := ?a5) rfl rfl (by kernel_rfl) (by kernel_rfl) (by kernel_rfl) (fun _ _ _ h => h) rfl (fun wz hz => ?h5) ?b5 hS ?_
  case h5 => (go_simp; try with_reducible rfl)
  case b5 => (simp only [Act.put, List.setIfInBounds_toArray, List.set_cons_zero, List.set_cons_succ]; rfl)
  refine wpAnyH_op (i := 6) (some 13) (v := ?v6) (a' := ?a6) rfl rfl (by kernel_rfl) (by kernel_rfl) (by kernel_rfl) (fun _ _ _ h => h) rfl (fun wz hz => ?h6) ?b6 hS ?_
  case h6 => (have hb := H.out.blk.fr hz (fun h => h); have hq := hb.lt; have d0 := hb.cell 0; have d1 := hb.cell 1; have d2 := hb.cell 2; simp only [List.getElem?_toArray, List.getElem?_cons_zero, List.getElem?_cons_succ] at d0 d1 d2; clear hb; go_simp; try with_reducible rfl)
  case b6 => (simp only [Act.put, List.setIfInBounds_toArray, List.set_cons_zero, List.set_cons_succ]; rfl)
  refine wpAnyH_op (i := 7) (some 14) (v := ?v7) (a' := ?a7) rfl rfl (by kernel_rfl) (by kernel_rfl) (by kernel_rfl) (fun _ _ _ h => h) rfl (fun wz hz => ?h7) ?b7 hS ?_
  case h7 => (go_simp; try with_reducible rfl)
  case b7 => (simp only [Act.put, List.setIfInBounds_toArray, List.set_cons_zero, List.set_cons_succ]; rfl)
  refine wpAnyH_op (i := 8) (some 15) (v := ?v8) (a' := ?a8) rfl rfl (by kernel_rfl) (by kernel_rfl) (by kernel_rfl) (fun _ _ _ h => h) rfl (fun wz hz => ?h8) ?b8 hS ?_
  case h8 => (have hb := H.out.blk.fr hz (fun h => h); have hq := hb.lt; have d0 := hb.cell 0; have d1 := hb.cell 1; have d2 := hb.cell 2; simp only [List.getElem?_toArray, List.getElem?_cons_zero, List.getElem?_cons_succ] at d0 d1 d2; clear hb; go_simp; try with_reducible rfl)
  case b8 => (simp only [Act.put, List.setIfInBounds_toArray, List.set_cons_zero, List.set_cons_succ]; rfl)
  refine wpAnyH_op (i := 10) (some 17) (v := ?v10) (a' := ?a10) rfl rfl (by kernel_rfl) (by kernel_rfl) (by kernel_rfl) (fun _ _ _ h => h) rfl (fun wz hz => ?h10) ?b10 hS ?_
  case h10 => (go_simp; try with_reducible rfl)
  case b10 => (simp only [Act.put, List.setIfInBounds_toArray, List.set_cons_zero, List.set_cons_succ]; rfl)
  refine wpAnyH_op (i := 11) (some 18) (v := ?v11) (a' := ?a11) rfl rfl (by kernel_rfl) (by kernel_rfl) (by kernel_rfl) (fun _ _ _ h => h) rfl (fun wz hz => ?h11) ?b11 hS ?_
  case h11 => (have hb := H.out.blk.fr hz (fun h => h); have hq := hb.lt; have d0 := hb.cell 0; have d1 := hb.cell 1; have d2 := hb.cell 2; simp only [List.getElem?_toArray, List.getElem?_cons_zero, List.getElem?_cons_succ] at d0 d1 d2; clear hb; go_simp; try with_reducible rfl)
  case b11 => (simp only [Act.put, List.setIfInBounds_toArray, List.set_cons_zero, List.set_cons_succ]; rfl)
  refine wpAnyH_op (i := 12) (some 19) (v := ?v12) (a' := ?a12) rfl rfl (by kernel_rfl) (by kernel_rfl) (by kernel_rfl) (fun _ _ _ h => h) rfl (fun wz hz => ?h12) ?b12 hS ?_
  case h12 => (go_simp; try with_reducible rfl)
  case b12 => (simp only [Act.put, List.setIfInBounds_toArray, List.set_cons_zero, List.set_cons_succ]; rfl)
  refine wpAnyH_op (i := 13) (some 20) (v := ?v13) (a' := ?a13) rfl rfl (by kernel_rfl) (by kernel_rfl) (by kernel_rfl) (fun _ _ _ h => h) rfl (fun wz hz => ?h13) ?b13 hS ?_
  case h13 => (have hb := H.out.blk.fr hz (fun h => h); have hq := hb.lt; have d0 := hb.cell 0; have d1 := hb.cell 1; have d2 := hb.cell 2; simp only [List.getElem?_toArray, List.getElem?_cons_zero, List.getElem?_cons_succ] at d0 d1 d2; clear hb; go_simp; try with_reducible rfl)
  case b13 => (simp only [Act.put, List.setIfInBounds_toArray, List.set_cons_zero, List.set_cons_succ]; rfl)
  refine wpAnyH_call (i := 4) rfl (by kernel_rfl) rfl ?run4 (clone_rows_any ⟨nb, 0, none⟩ S.now.length nv.length (nv.take S.now.length) w1.drew Hn1.out Hno.out (take_cells (H.out.bnow.fr hS (fun h => h))) (H.out.bnow.fr hS (fun h => h)).lt (by omega)) ?_
  case run4 => go_simp
  rintro e w2 ⟨v1, rfl, ho1, hne1, hf2⟩
  obtain ⟨g1, cap1, rfl, hg1, hg1l⟩ := ho1.form hpos
  have Ho1 := Lib.hid ho1
  have Hf2 := Lib.hid hf2
  have HB2 := Lib.hid (HB1.out.drew.fr hf2 (fun h => h))
  have hz2 := hf2.size
  have hS2 : Fr Nob w w2 := hS.trans hf2
  clear ho1 hne1 hf2
  refine ⟨_, rfl, hS2, ?_⟩
  refine wpAnyH_at (some 11) (a' := ?a4) rfl ?b4 ?_
  case b4 => (simp only [Act.put, List.setIfInBounds_toArray, List.set_cons_zero, List.set_cons_succ]; rfl)
  refine wpAnyH_call (i := 9) rfl (by kernel_rfl) rfl ?run9 (clone_rows_any ⟨lb, 0, none⟩ S.now.length lv.length (lv.take S.now.length) w2 Hl1.out Hlo.out (take_cells (H.out.blast.fr hS2 (fun h => h))) (H.out.blast.fr hS2 (fun h => h)).lt (by omega)) ?_
  case run9 => go_simp
  rintro e w3 ⟨v2, rfl, ho2, hne2, hf3⟩
  obtain ⟨g2, cap2, rfl, hg2, hg2l⟩ := ho2.form hpos
  have Ho2 := Lib.hid ho2
  have Hf3 := Lib.hid hf3
  have HB3 := Lib.hid (HB2.out.fr hf3 (fun h => h))
  have hz3 := hf3.size
  have hS3 : Fr Nob w w3 := hS2.trans hf3
  clear ho2 hne2 hf3
  refine ⟨_, rfl, hS3, ?_⟩
  refine wpAnyH_at (some 16) (a' := ?a9) rfl ?b9 ?_
  case b9 => (simp only [Act.put, List.setIfInBounds_toArray, List.set_cons_zero, List.set_cons_succ]; rfl)
  refine wpAnyH_call (i := 14) rfl (by kernel_rfl) rfl ?run14 (clone_waits_any (.slice A ws.length c) ws.length (waitCells ws) w3 (own_fr H.out.own hS3 (fun _ _ h => h)) Hwo.out (by have := Hwl2.out; omega)) ?_
  case run14 => go_simp
  rintro e w4 ⟨v3, rfl, ho3, hf4⟩
  obtain ⟨A3, c3, rfl⟩ : ∃ A c, v3 = .slice A ws.length c := by
    rcases ho3.2 with ⟨e, e2⟩ | ⟨g, cap, cur, e, _⟩
    · rw [e2]; exact ⟨_, _, e⟩
    · exact ⟨_, _, e⟩
  have Ho3 := Lib.hid ho3
  have Hf4 := Lib.hid hf4
  have HB4 := Lib.hid (HB3.out.fr hf4 (fun h => h))
  have hz4 := hf4.size
  have hS4 : Fr Nob w w4 := hS3.trans hf4
  clear ho3 hf4
  refine ⟨_, rfl, hS4, ?_⟩
  refine wpAnyH_at (some 21) (a' := ?a14) rfl ?b14 ?_
  case b14 => (simp only [Act.put, List.setIfInBounds_toArray, List.set_cons_zero, List.set_cons_succ]; rfl)
  refine wpAnyH_run (i := 15) (some 22) (v := ?v15) (a' := ?a15) rfl rfl (by kernel_rfl) rfl ?h15 ?b15 hS4 ?_
  case h15 => (go_simp; try with_reducible rfl)
  case b15 => (simp only [Act.put, List.setIfInBounds_toArray, List.set_cons_zero, List.set_cons_succ]; rfl)
  refine wpAnyH_store (i := 16) (w' := ?w16) rfl rfl (by kernel_rfl) rfl ?h16 ?s16 ?_
  case h16 => (have c0 := HB4.out.cell 0; have f0 := HB4.out.frozen 0; simp only [List.getElem?_toArray, List.getElem?_cons_zero, List.getElem?_cons_succ] at c0; go_simp; try with_reducible rfl)
  case s16 => exact hS4.setCell (p := ⟨w.heap.size, 0, none⟩) (.inl (Nat.le_refl _)) _
  have hS5 : Fr Nob w (_) := hS4.setCell (p := ⟨w.heap.size, 0, none⟩) (.inl (Nat.le_refl _)) (.slice (some ⟨g1, 0, none⟩) S.now.length cap1)
  have HB5 := Lib.hid (HB4.out.set_ 0 (.slice (some ⟨g1, 0, none⟩) S.now.length cap1))
  simp only [List.setIfInBounds_toArray, List.set_cons_zero, List.set_cons_succ] at HB5
  refine wpAnyH_run (i := 17) (some 23) (v := ?v17) (a' := ?a17) rfl rfl (by kernel_rfl) rfl ?h17 ?b17 hS5 ?_
  case h17 => (go_simp; try with_reducible rfl)
  case b17 => (simp only [Act.put, List.setIfInBounds_toArray, List.set_cons_zero, List.set_cons_succ]; rfl)
  refine wpAnyH_store (i := 18) (w' := ?w18) rfl rfl (by kernel_rfl) rfl ?h18 ?s18 ?_
  case h18 => (have c1 := HB5.out.cell 1; have f1 := HB5.out.frozen 1; simp only [List.getElem?_toArray, List.getElem?_cons_zero, List.getElem?_cons_succ] at c1; go_simp; try with_reducible rfl)
  case s18 => exact hS5.setCell (p := ⟨w.heap.size, 1, none⟩) (.inl (Nat.le_refl _)) _
  have hS6 : Fr Nob w (_) := hS5.setCell (p := ⟨w.heap.size, 1, none⟩) (.inl (Nat.le_refl _)) (.slice (some ⟨g2, 0, none⟩) S.now.length cap2)
  have HB6 := Lib.hid (HB5.out.set_ 1 (.slice (some ⟨g2, 0, none⟩) S.now.length cap2))
  simp only [List.setIfInBounds_toArray, List.set_cons_zero, List.set_cons_succ] at HB6
  refine wpAnyH_run (i := 19) (some 24) (v := ?v19) (a' := ?a19) rfl rfl (by kernel_rfl) rfl ?h19 ?b19 hS6 ?_
  case h19 => (go_simp; try with_reducible rfl)
  case b19 => (simp only [Act.put, List.setIfInBounds_toArray, List.set_cons_zero, List.set_cons_succ]; rfl)
  refine wpAnyH_store (i := 20) (w' := ?w20) rfl rfl (by kernel_rfl) rfl ?h20 ?s20 ?_
  case h20 => (have c2 := HB6.out.cell 2; have f2 := HB6.out.frozen 2; simp only [List.getElem?_toArray, List.getElem?_cons_zero, List.getElem?_cons_succ] at c2; go_simp; try with_reducible rfl)
  case s20 => exact hS6.setCell (p := ⟨w.heap.size, 2, none⟩) (.inl (Nat.le_refl _)) _
  have hS7 : Fr Nob w (_) := hS6.setCell (p := ⟨w.heap.size, 2, none⟩) (.inl (Nat.le_refl _)) (.slice A3 ws.length c3)
  have HB7 := Lib.hid (HB6.out.set_ 2 (.slice A3 ws.length c3))
  simp only [List.setIfInBounds_toArray, List.set_cons_zero, List.set_cons_succ] at HB7
  refine wpAnyH_done (by kernel_rfl) ?_ _
  dsimp only [OnlyNormal]
  go_wp2
  go_ret
  refine ⟨_, rfl, Nat.le_refl _, ?_, hS7⟩
  have hz0 : w1.drew.heap.size = w1.heap.size := rfl
  refine copy_shape (B1 := w1.heap.size) (B2 := w2.heap.size) (B3 := w3.heap.size) H.out (Nat.le_refl _) hS7 HB7.out ?_ ?_ ?_ (by omega) (by omega) (by omega) (by omega)
  · exact own_set (own_set (own_set (own_fr (own_fr Ho1.out Hf3.out (fun _ _ h => h)) Hf4.out (fun _ _ h => h)) HB4.out (by decide)) HB5.out (by decide)) HB6.out (by decide)
  · exact own_set (own_set (own_set (own_fr Ho2.out Hf4.out (fun _ _ h => h)) HB4.out (by decide)) HB5.out (by decide)) HB6.out (by decide)
  · exact own_set (own_set (own_set Ho3.out HB4.out (by decide)) HB5.out (by decide)) HB6.out (by decide)
end
end Go.Proofs.Ytieiopeblleheaa
