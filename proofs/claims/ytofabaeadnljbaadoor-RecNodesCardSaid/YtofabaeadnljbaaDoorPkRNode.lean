/-
  The document's NodeOf and Node.
-/
import Derived.Test.YtofabaeadnljbaaDoorPkRIntOf
import Derived.Test.YtofabaeadnljbaaDoorPkNodeOf
import Derived.Test.YtofabaeadnljbaaDoorReg
namespace Go.Proofs.YtofabaeadnljbaaDoor
set_option linter.unusedSimpArgs false
set_option linter.unusedVariables false
open Go.RowKit

set_option maxHeartbeats 3200000 in
set_option maxRecDepth 100000 in
theorem RNodeOf_any (b : List UInt8) (w : World) (hl : b.length ≤ 140737488351232) :
    Calls Tryd.prog 9 #[.string ⟨b.toArray⟩] w fun e w' => e = .returned (.tuple #[(nodeOf b).1.v, .int .i64 ((nodeOf b).2 : Int)]) ∧ Fr Nob w w' := by
  obtain ⟨w1, hw1⟩ : ∃ W, (w.alloc (.cells #[.int .i64 0, .int .i64 0, .int .i64 0, .int .i64 0] 25)).alloc (.cells #[strv b, .int .i64 0] 70) = W := ⟨_, rfl⟩
  have HF1 : Hid (Fr (fun x => w.heap.size ≤ x) w w1) := by rw [← hw1]; exact ((Fr.refl _ w).alloc _).alloc _
  have HB1 : Hid (Blk w1 w.heap.size 25 #[.int .i64 0, .int .i64 0, .int .i64 0, .int .i64 0]) := by rw [← hw1]; exact (Blk.new w _ _).alloc _
  have hd1 : Blk w1 (w.heap.size + 1) 70 #[strv b, .int .i64 0] := by
    rw [← hw1]
    have := Blk.new (w.alloc (.cells #[.int .i64 0, .int .i64 0, .int .i64 0, .int .i64 0] 25)) 70 #[strv b, .int .i64 0]
    rwa [World.size_alloc] at this
  have HD : Hid (nodeOf b = if (Rd.of b).nx.nx.nx.nx.stop = 0 then (⟨(Rd.of b).x, (Rd.of b).nx.x, (Rd.of b).nx.nx.x, (Rd.of b).nx.nx.nx.x⟩, 0) else (Nd.zero, (Rd.of b).nx.nx.nx.nx.stop)) := rfl
  have hd1 : Blk w1 (w.heap.size + 1) 70 #[strv (Rd.of b).b, .int .i64 (Rd.of b).e] := hd1
  obtain ⟨r0, hr0⟩ : ∃ r, Rd.of b = r := ⟨_, rfl⟩
  have hl0 : r0.b.length ≤ 140737488351232 := by rw [← hr0]; exact hl
  have he0 : r0.e ≤ 5 := by rw [← hr0]; show 0 ≤ 5; omega
  rw [hr0] at HD hd1
  have HRd1 := Lib.hid hd1
  have HW1 : Hid ((w.alloc (.cells #[.int .i64 0, .int .i64 0, .int .i64 0, .int .i64 0] 25)).alloc (.cells #[.string ⟨b.toArray⟩, .int .i64 0] 70) = w1) := hw1
  clear hr0 hd1 hw1
  go_enter Tryd.func9, Tryd.ntmps9
  have HN1 := Lib.hid (rdInt_any HRd1.out hl0 he0)
  have hl1 : r0.nx.b.length ≤ 140737488351232 := by have := r0.nx_len; omega
  have he1 : r0.nx.e ≤ 5 := r0.nx_e he0
  obtain ⟨r1, hr1⟩ : ∃ r, r0.nx = r := ⟨_, rfl⟩
  rw [hr1] at hl1 he1 HN1 HD
  obtain ⟨x0, hx0⟩ : ∃ x, r0.x = x := ⟨_, rfl⟩
  rw [hx0] at HN1 HD
  clear hr1 hx0
  go_wp2_with fail
  rw [HW1.out]
  refine HN1.out.mono ?_
  rintro e w2 ⟨rfl, hd2, hf2⟩
  have HRd2 := Lib.hid hd2
  have HF2 : Hid (Fr (fun x => w.heap.size ≤ x) w w2) := HF1.out.step hf2 (fun i _ h => by omega)
  have HB2 := Lib.hid (HB1.out.fr hf2 (fun h => by omega))
  clear hd2 hf2 HN1 HRd1 HF1 HB1
  have HN2 := Lib.hid (rdInt_any HRd2.out hl1 he1)
  have hl2 : r1.nx.b.length ≤ 140737488351232 := by have := r1.nx_len; omega
  have he2 : r1.nx.e ≤ 5 := r1.nx_e he1
  obtain ⟨r2, hr2⟩ : ∃ r, r1.nx = r := ⟨_, rfl⟩
  rw [hr2] at hl2 he2 HN2 HD
  obtain ⟨x1, hx1⟩ : ∃ x, r1.x = x := ⟨_, rfl⟩
  rw [hx1] at HN2 HD
  clear hr2 hx1
  go_wp2_with fail

  refine HN2.out.mono ?_
  rintro e w3 ⟨rfl, hd3, hf3⟩
  have HRd3 := Lib.hid hd3
  have HF3 : Hid (Fr (fun x => w.heap.size ≤ x) w w3) := HF2.out.step hf3 (fun i _ h => by omega)
  have HB3 := Lib.hid (HB2.out.fr hf3 (fun h => by omega))
  clear hd3 hf3 HN2 HRd2 HF2 HB2
  have HN3 := Lib.hid (rdInt_any HRd3.out hl2 he2)
  have hl3 : r2.nx.b.length ≤ 140737488351232 := by have := r2.nx_len; omega
  have he3 : r2.nx.e ≤ 5 := r2.nx_e he2
  obtain ⟨r3, hr3⟩ : ∃ r, r2.nx = r := ⟨_, rfl⟩
  rw [hr3] at hl3 he3 HN3 HD
  obtain ⟨x2, hx2⟩ : ∃ x, r2.x = x := ⟨_, rfl⟩
  rw [hx2] at HN3 HD
  clear hr3 hx2
  go_wp2_with fail

  refine HN3.out.mono ?_
  rintro e w4 ⟨rfl, hd4, hf4⟩
  have HRd4 := Lib.hid hd4
  have HF4 : Hid (Fr (fun x => w.heap.size ≤ x) w w4) := HF3.out.step hf4 (fun i _ h => by omega)
  have HB4 := Lib.hid (HB3.out.fr hf4 (fun h => by omega))
  clear hd4 hf4 HN3 HRd3 HF3 HB3
  have HN4 := Lib.hid (rdInt_any HRd4.out hl3 he3)
  have hl4 : r3.nx.b.length ≤ 140737488351232 := by have := r3.nx_len; omega
  have he4 : r3.nx.e ≤ 5 := r3.nx_e he3
  obtain ⟨r4, hr4⟩ : ∃ r, r3.nx = r := ⟨_, rfl⟩
  rw [hr4] at hl4 he4 HN4 HD
  obtain ⟨x3, hx3⟩ : ∃ x, r3.x = x := ⟨_, rfl⟩
  rw [hx3] at HN4 HD
  clear hr4 hx3
  go_wp2_with fail

  refine HN4.out.mono ?_
  rintro e w5 ⟨rfl, hd5, hf5⟩
  have HRd5 := Lib.hid hd5
  have HF5 : Hid (Fr (fun x => w.heap.size ≤ x) w w5) := HF4.out.step hf5 (fun i _ h => by omega)
  have HB5 := Lib.hid (HB4.out.fr hf5 (fun h => by omega))
  clear hd5 hf5 HN4 HRd4 HF4 HB4
  have HE := Lib.hid (rdEnd_any HRd5.out he4)
  obtain ⟨st, hst⟩ : ∃ s, r4.stop = s := ⟨_, rfl⟩
  rw [hst] at HE HD
  clear hst
  go_wp2_with fail
  refine HE.out.mono ?_
  rintro e w6 ⟨rfl, hf6⟩
  have hb6 : Blk w6 w.heap.size 25 #[.int .i64 0, .int .i64 0, .int .i64 0, .int .i64 0] := HB5.out.fr hf6 (fun h => by omega)
  have HF6 : Hid (Fr (fun x => w.heap.size ≤ x) w w6) := HF5.out.step hf6 (fun i _ h => by omega)
  have z0 := hb6.cell 0
  have z1 := hb6.cell 1
  have z2 := hb6.cell 2
  have z3 := hb6.cell 3
  have q0 := hb6.frozen 0
  have q1 := hb6.frozen 1
  have q2 := hb6.frozen 2
  have q3 := hb6.frozen 3
  have hlt0 := hb6.lt
  simp only [List.getElem?_toArray, List.getElem?_cons_zero, List.getElem?_cons_succ] at z0 z1 z2 z3
  have HB6 := Lib.hid hb6
  clear hb6 HE hf6 HRd5 HB5
  by_cases hs : st = 0
  · subst hs
    have HD0 : Hid (nodeOf b = (⟨x0, x1, x2, x3⟩, 0)) := by rw [Hid, HD.out, if_pos rfl]
    clear HD
    go_wp2
    have hbE : Blk ((((w6.setCell ⟨w.heap.size, 0, none⟩ (.int .i64 x0)).setCell ⟨w.heap.size, 1, none⟩ (.int .i64 x1)).setCell ⟨w.heap.size, 2, none⟩ (.int .i64 x2)).setCell ⟨w.heap.size, 3, none⟩ (.int .i64 x3)) w.heap.size 25 #[.int .i64 x0, .int .i64 x1, .int .i64 x2, .int .i64 x3] := (((HB6.out.set_ 0 _).set_ 1 _).set_ 2 _).set_ 3 _
    have hFE : Fr (fun x => w.heap.size ≤ x) w ((((w6.setCell ⟨w.heap.size, 0, none⟩ (.int .i64 x0)).setCell ⟨w.heap.size, 1, none⟩ (.int .i64 x1)).setCell ⟨w.heap.size, 2, none⟩ (.int .i64 x2)).setCell ⟨w.heap.size, 3, none⟩ (.int .i64 x3)) :=
      (((HF6.out.setCell (p := ⟨w.heap.size, 0, none⟩) (.inl (Nat.le_refl _)) _).setCell (p := ⟨w.heap.size, 1, none⟩) (.inl (Nat.le_refl _)) _).setCell (p := ⟨w.heap.size, 2, none⟩) (.inl (Nat.le_refl _)) _).setCell (p := ⟨w.heap.size, 3, none⟩) (.inl (Nat.le_refl _)) _
    refine bodyPost_ret (results_cell_row_tmp rfl _ _ _ _ _ _ rfl hbE Tryd.underlying25 rfl node_size) rfl ⟨?_, hFE.mono (fun i hi h => by omega)⟩
    rw [HD0.out]; rfl
  · have ts : ((st : Int) == 0) = false := by rw [beq_eq_false_iff_ne]; omega
    have HD0 : Hid (nodeOf b = (Nd.zero, st)) := by rw [Hid, HD.out, if_neg hs]
    clear HD
    go_wp2
    have hbE : Blk ((((w6.setCell ⟨w.heap.size, 0, none⟩ (.int .i64 0)).setCell ⟨w.heap.size, 1, none⟩ (.int .i64 0)).setCell ⟨w.heap.size, 2, none⟩ (.int .i64 0)).setCell ⟨w.heap.size, 3, none⟩ (.int .i64 0)) w.heap.size 25 #[.int .i64 0, .int .i64 0, .int .i64 0, .int .i64 0] := (((HB6.out.set_ 0 _).set_ 1 _).set_ 2 _).set_ 3 _
    have hFE : Fr (fun x => w.heap.size ≤ x) w ((((w6.setCell ⟨w.heap.size, 0, none⟩ (.int .i64 0)).setCell ⟨w.heap.size, 1, none⟩ (.int .i64 0)).setCell ⟨w.heap.size, 2, none⟩ (.int .i64 0)).setCell ⟨w.heap.size, 3, none⟩ (.int .i64 0)) :=
      (((HF6.out.setCell (p := ⟨w.heap.size, 0, none⟩) (.inl (Nat.le_refl _)) _).setCell (p := ⟨w.heap.size, 1, none⟩) (.inl (Nat.le_refl _)) _).setCell (p := ⟨w.heap.size, 2, none⟩) (.inl (Nat.le_refl _)) _).setCell (p := ⟨w.heap.size, 3, none⟩) (.inl (Nat.le_refl _)) _
    refine bodyPost_ret (results_cell_row_tmp rfl _ _ _ _ _ _ rfl hbE Tryd.underlying25 rfl node_size) rfl ⟨?_, hFE.mono (fun i hi h => by omega)⟩
    rw [HD0.out]; rfl

set_option maxHeartbeats 3200000 in
set_option maxRecDepth 100000 in
theorem RNode_any (n : Nd) (w : World) (h : n.Ok) : Calls Tryd.prog 10 #[n.v] w fun e w' => e = .returned (strv n.b) ∧ Fr Nob w w' := by
  have HI : Hid (∀ W, Calls Tryd.prog 28 #[.int .i64 n.id] W fun e w' => e = .returned (.string ⟨(intB n.id).toArray⟩) ∧ Fr Nob W w') := fun W => RInt_any n.id W h.i0 h.i1
  have HX : Hid (∀ W, Calls Tryd.prog 28 #[.int .i64 n.x] W fun e w' => e = .returned (.string ⟨(intB n.x).toArray⟩) ∧ Fr Nob W w') := fun W => RInt_any n.x W h.x0 h.x1
  have HY : Hid (∀ W, Calls Tryd.prog 28 #[.int .i64 n.y] W fun e w' => e = .returned (.string ⟨(intB n.y).toArray⟩) ∧ Fr Nob W w') := fun W => RInt_any n.y W h.y0 h.y1
  have HFc : Hid (∀ W, Calls Tryd.prog 28 #[.int .i64 n.f] W fun e w' => e = .returned (.string ⟨(intB n.f).toArray⟩) ∧ Fr Nob W w') := fun W => RInt_any n.f W h.f0 h.f1
  have L1 := (intB_length n.id h.i0 h.i1).2
  have L2 := (intB_length n.x h.x0 h.x1).2
  have L3 := (intB_length n.y h.y0 h.y1).2
  have L4 := (intB_length n.f h.f0 h.f1).2
  have HS : Hid (n.b = intB n.id ++ (intB n.x ++ (intB n.y ++ (intB n.f ++ [])))) := rfl
  unfold Nd.v
  clear h
  obtain ⟨i, x, y, f⟩ := n
  dsimp only at HI HX HY HFc L1 L2 L3 L4 HS ⊢
  obtain ⟨bi, hbi⟩ : ∃ b, intB i = b := ⟨_, rfl⟩
  obtain ⟨bx, hbx⟩ : ∃ b, intB x = b := ⟨_, rfl⟩
  obtain ⟨by_, hby⟩ : ∃ b, intB y = b := ⟨_, rfl⟩
  obtain ⟨bf, hbf⟩ : ∃ b, intB f = b := ⟨_, rfl⟩
  rw [hbi] at HI L1 HS
  rw [hbx] at HX L2 HS
  rw [hby] at HY L3 HS
  rw [hbf] at HFc L4 HS
  clear hbi hbx hby hbf
  obtain ⟨b1, hb1⟩ : ∃ b, bi ++ bx = b := ⟨_, rfl⟩
  obtain ⟨b2, hb2⟩ : ∃ b, b1 ++ by_ = b := ⟨_, rfl⟩
  obtain ⟨b3, hb3⟩ : ∃ b, b2 ++ bf = b := ⟨_, rfl⟩
  have a1 : (⟨bi.toArray⟩ ++ ⟨bx.toArray⟩ : ByteArray) = ⟨b1.toArray⟩ := by rw [str_app, hb1]
  have a2 : (⟨b1.toArray⟩ ++ ⟨by_.toArray⟩ : ByteArray) = ⟨b2.toArray⟩ := by rw [str_app, hb2]
  have a3 : (⟨b2.toArray⟩ ++ ⟨bf.toArray⟩ : ByteArray) = ⟨b3.toArray⟩ := by rw [str_app, hb3]
  have HS3 : Hid ({ id := i, x := x, y := y, f := f : Nd }.b = b3) := by rw [Hid, HS.out, List.append_nil, ← List.append_assoc, ← List.append_assoc, hb1, hb2, hb3]
  have L5 : b1.length ≤ 20 := by rw [← hb1, List.length_append]; omega
  have L6 : b2.length ≤ 30 := by rw [← hb2, List.length_append]; omega
  clear hb1 hb2 hb3 HS
  have hB : Blk (w.alloc (.cells #[.int .i64 i, .int .i64 x, .int .i64 y, .int .i64 f] 25)) w.heap.size 25 #[.int .i64 i, .int .i64 x, .int .i64 y, .int .i64 f] := Blk.new _ _ _
  have hF0 : Fr Nob w (w.alloc (.cells #[.int .i64 i, .int .i64 x, .int .i64 y, .int .i64 f] 25)) := (Fr.refl Nob w).alloc _
  go_enter Tryd.func10, Tryd.ntmps10
  go_wp2
  obtain ⟨w0, hw0⟩ : ∃ W, w.alloc (.cells #[.int .i64 i, .int .i64 x, .int .i64 y, .int .i64 f] 25) = W := ⟨_, rfl⟩
  obtain ⟨g, hg⟩ : ∃ g, w.heap.size = g := ⟨_, rfl⟩
  rw [hw0] at hB hF0
  rw [hg] at hB
  try rw [hw0]
  try rw [hg]
  have HB := Lib.hid hB
  have HF0 := Lib.hid hF0
  clear hB hF0 hw0 hg
  have hS : Fr Nob w0 w0.drew := (Fr.refl _ w0).drew
  refine Rg.begin (Fr Nob w0) [] (by kernel_rfl) ?_
  refine Rg.op 0 (some 3) hS (v := ?v0) (a' := ?a0) (hy := fun wz hwz => ?h0) (ha := ?b0) (h := ?_)
  case h0 => (go_simp; try with_reducible rfl)
  case b0 => (simp only [Act.put, List.setIfInBounds_toArray, List.set_cons_zero, List.set_cons_succ]; rfl)
  refine Rg.op 1 (some 4) hS (v := ?v1) (a' := ?a1) (hy := fun wz hwz => ?h1) (ha := ?b1) (h := ?_)
  case h1 => (have hb := (HB.out.fr hwz (fun h => h)); have cc := hb.cell 0; have hp := hb.lt; simp only [List.getElem?_toArray, List.getElem?_cons_zero, List.getElem?_cons_succ] at cc; clear hb; go_simp; try with_reducible rfl)
  case b1 => (simp only [Act.put, List.setIfInBounds_toArray, List.set_cons_zero, List.set_cons_succ]; rfl)
  refine Rg.op 3 (some 6) hS (v := ?v3) (a' := ?a3) (hy := fun wz hwz => ?h3) (ha := ?b3) (h := ?_)
  case h3 => (go_simp; try with_reducible rfl)
  case b3 => (simp only [Act.put, List.setIfInBounds_toArray, List.set_cons_zero, List.set_cons_succ]; rfl)
  refine Rg.op 4 (some 7) hS (v := ?v4) (a' := ?a4) (hy := fun wz hwz => ?h4) (ha := ?b4) (h := ?_)
  case h4 => (go_simp; try with_reducible rfl)
  case b4 => (simp only [Act.put, List.setIfInBounds_toArray, List.set_cons_zero, List.set_cons_succ]; rfl)
  refine Rg.op 5 (some 8) hS (v := ?v5) (a' := ?a5) (hy := fun wz hwz => ?h5) (ha := ?b5) (h := ?_)
  case h5 => (have hb := (HB.out.fr hwz (fun h => h)); have cc := hb.cell 1; have hp := hb.lt; simp only [List.getElem?_toArray, List.getElem?_cons_zero, List.getElem?_cons_succ] at cc; clear hb; go_simp; try with_reducible rfl)
  case b5 => (simp only [Act.put, List.setIfInBounds_toArray, List.set_cons_zero, List.set_cons_succ]; rfl)
  refine Rg.op 8 (some 11) hS (v := ?v8) (a' := ?a8) (hy := fun wz hwz => ?h8) (ha := ?b8) (h := ?_)
  case h8 => (go_simp; try with_reducible rfl)
  case b8 => (simp only [Act.put, List.setIfInBounds_toArray, List.set_cons_zero, List.set_cons_succ]; rfl)
  refine Rg.op 9 (some 12) hS (v := ?v9) (a' := ?a9) (hy := fun wz hwz => ?h9) (ha := ?b9) (h := ?_)
  case h9 => (go_simp; try with_reducible rfl)
  case b9 => (simp only [Act.put, List.setIfInBounds_toArray, List.set_cons_zero, List.set_cons_succ]; rfl)
  refine Rg.op 10 (some 13) hS (v := ?v10) (a' := ?a10) (hy := fun wz hwz => ?h10) (ha := ?b10) (h := ?_)
  case h10 => (have hb := (HB.out.fr hwz (fun h => h)); have cc := hb.cell 2; have hp := hb.lt; simp only [List.getElem?_toArray, List.getElem?_cons_zero, List.getElem?_cons_succ] at cc; clear hb; go_simp; try with_reducible rfl)
  case b10 => (simp only [Act.put, List.setIfInBounds_toArray, List.set_cons_zero, List.set_cons_succ]; rfl)
  refine Rg.op 13 (some 16) hS (v := ?v13) (a' := ?a13) (hy := fun wz hwz => ?h13) (ha := ?b13) (h := ?_)
  case h13 => (go_simp; try with_reducible rfl)
  case b13 => (simp only [Act.put, List.setIfInBounds_toArray, List.set_cons_zero, List.set_cons_succ]; rfl)
  refine Rg.op 14 (some 17) hS (v := ?v14) (a' := ?a14) (hy := fun wz hwz => ?h14) (ha := ?b14) (h := ?_)
  case h14 => (have hb := (HB.out.fr hwz (fun h => h)); have cc := hb.cell 3; have hp := hb.lt; simp only [List.getElem?_toArray, List.getElem?_cons_zero, List.getElem?_cons_succ] at cc; clear hb; go_simp; try with_reducible rfl)
  case b14 => (simp only [Act.put, List.setIfInBounds_toArray, List.set_cons_zero, List.set_cons_succ]; rfl)
  refine Rg.call 2 (some 5) (hrun := ?h2) (hcall := HI.out _) (h := ?_)
  case h2 => (go_simp)
  rintro e wa ⟨rfl, hwa⟩
  have Swa : Fr Nob w0 wa := hS.trans hwa
  clear hwa
  refine ⟨_, ?a2, rfl, ?b2, (fun _ => Swa), ?_⟩
  case b2 => (simp only [Act.put, List.setIfInBounds_toArray, List.set_cons_zero, List.set_cons_succ]; rfl)
  refine Rg.call 6 (some 9) (hrun := ?h6) (hcall := HX.out _) (h := ?_)
  case h6 => (go_simp)
  rintro e wb ⟨rfl, hwb⟩
  have Swb : Fr Nob w0 wb := Swa.trans hwb
  clear hwb
  refine ⟨_, ?a6, rfl, ?b6, (fun _ => Swb), ?_⟩
  case b6 => (simp only [Act.put, List.setIfInBounds_toArray, List.set_cons_zero, List.set_cons_succ]; rfl)
  refine Rg.op 7 (some 10) Swb (v := (.string ⟨b1.toArray⟩)) (a' := ?a7) (hy := fun wz hwz => ?h7) (ha := ?b7) (h := ?_)
  case h7 => (go_simp; omega)
  case b7 => (simp only [Act.put, List.setIfInBounds_toArray, List.set_cons_zero, List.set_cons_succ]; rfl)
  refine Rg.call 11 (some 14) (hrun := ?h11) (hcall := HY.out _) (h := ?_)
  case h11 => (go_simp)
  rintro e wc ⟨rfl, hwc⟩
  have Swc : Fr Nob w0 wc := Swb.trans hwc
  clear hwc
  refine ⟨_, ?a11, rfl, ?b11, (fun _ => Swc), ?_⟩
  case b11 => (simp only [Act.put, List.setIfInBounds_toArray, List.set_cons_zero, List.set_cons_succ]; rfl)
  refine Rg.op 12 (some 15) Swc (v := (.string ⟨b2.toArray⟩)) (a' := ?a12) (hy := fun wz hwz => ?h12) (ha := ?b12) (h := ?_)
  case h12 => (go_simp; omega)
  case b12 => (simp only [Act.put, List.setIfInBounds_toArray, List.set_cons_zero, List.set_cons_succ]; rfl)
  refine Rg.call 15 (some 18) (hrun := ?h15) (hcall := HFc.out _) (h := ?_)
  case h15 => (go_simp)
  rintro e wd ⟨rfl, hwd⟩
  have Swd : Fr Nob w0 wd := Swc.trans hwd
  clear hwd
  refine ⟨_, ?a15, rfl, ?b15, (fun _ => Swd), ?_⟩
  case b15 => (simp only [Act.put, List.setIfInBounds_toArray, List.set_cons_zero, List.set_cons_succ]; rfl)
  refine Rg.op 16 (some 19) Swd (v := (.string ⟨b3.toArray⟩)) (a' := ?a16) (hy := fun wz hwz => ?h16) (ha := ?b16) (h := ?_)
  case h16 => (go_simp; omega)
  case b16 => (simp only [Act.put, List.setIfInBounds_toArray, List.set_cons_zero, List.set_cons_succ]; rfl)
  refine Rg.op 17 (some 2) Swd (v := ?v17) (a' := ?a17) (hy := fun wz hwz => ?h17) (ha := ?b17) (h := ?_)
  case h17 => (go_simp; try with_reducible rfl)
  case b17 => (simp only [Act.put, List.setIfInBounds_toArray, List.set_cons_zero, List.set_cons_succ]; rfl)
  refine Rg.done _ (h := ?_)
  go_wp2
  go_ret
  exact ⟨by rw [HS3.out]; rfl, HF0.out.trans Swd⟩
end Go.Proofs.YtofabaeadnljbaaDoor
