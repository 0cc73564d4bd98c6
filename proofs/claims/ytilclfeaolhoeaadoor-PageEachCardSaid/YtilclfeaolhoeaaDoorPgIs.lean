/-
  is: does a page have what a number says?
-/
import Derived.Test.YtilclfeaolhoeaaDoorPgData
namespace Go.Proofs.YtilclfeaolhoeaaDoor
set_option linter.unusedSimpArgs false
set_option linter.unusedVariables false
open Go.RowKit

theorem str_ne {a b : List UInt8} (h : a ≠ b) : ¬ (⟨a.toArray⟩ : ByteArray) = ⟨b.toArray⟩ := by
  intro e
  injection e with e
  exact h (by simpa using congrArg Array.toList e)

set_option maxHeartbeats 1600000 in
set_option maxRecDepth 100000 in
theorem is_any {R : Nat → Prop} {w : World} {p d at0 pages turn : Nat} {S : DS} (no n : Nat) (h : FileAt w p d at0 pages turn) (hd : DiskOk R w d S) (hl : S.dead = false) (hp : PSound S.now at0 pages) (hno : no < pages) (hn : n ≤ 100000) :
    Calls Tryd.prog 11 #[.pointer (some ⟨p, 0, none⟩), .int .i64 no, .int .i64 n] w fun e w' => e = .returned (.bool (decide ((pgAt S.now at0 no).lsn = n ∧ (pgAt S.now at0 no).d = dataB n))) ∧ Fr Nob w w' := by
  have HRd := Lib.hid (pgRead_any no h hd hl hp hno)
  have HDt : Hid (∀ W, Calls Tryd.prog 16 #[.int .i64 n] W fun e w' => e = .returned (.slice (some ⟨W.heap.size, 0, none⟩) 480 480) ∧ Blk w' W.heap.size 5 (bts (dataB n)).toArray ∧ Fr Nob W w') := fun W => Data_any n W hn
  have hdl : (pgAt S.now at0 no).d.length = 480 := by
    unfold pgAt
    split
    · exact zeros_length 480
    · show ((secN S.now (at0 + 8 * no) 8).drop 32).length = 480
      rw [List.length_drop, hp.l512 no hno]
  obtain ⟨x, hx⟩ : ∃ x, pgAt S.now at0 no = x := ⟨_, rfl⟩
  rw [hx] at HRd hdl ⊢
  obtain ⟨xn, xl, xd⟩ := x
  dsimp only at HRd hdl ⊢
  have ucv : IntKind.u64.wrap (n : Int) = (n : Int) := by rw [IntKind.wrap_u64]; omega
  clear h hd hl hp hx
  go_enter Tryd.func11, Tryd.ntmps11
  go_wp2_with fail
  refine HRd.out.mono ?_
  rintro e w1 ⟨g, o, rfl, hb1, hg1, hg1l, hf1⟩
  have HB1 := Lib.hid hb1
  have HF1 := Lib.hid hf1
  have hbx : Blk (w1.alloc (.cells #[.int .i64 no, .int .u64 xl, .slice (some ⟨g, o, none⟩) 480 480] 37)) w1.heap.size 37 #[.int .i64 no, .int .u64 xl, .slice (some ⟨g, o, none⟩) 480 480] := Blk.new _ _ _
  have hba : BytesIn (w1.alloc (.cells #[.int .i64 no, .int .u64 xl, .slice (some ⟨g, o, none⟩) 480 480] 37)) (some ⟨g, o, none⟩) xd := hb1.new ((Fr.refl _ _).alloc _)
  have hfa : Fr Nob w (w1.alloc (.cells #[.int .i64 no, .int .u64 xl, .slice (some ⟨g, o, none⟩) 480 480] 37)) := hf1.alloc _
  obtain ⟨wa, hwa⟩ : ∃ W, w1.alloc (.cells #[.int .i64 no, .int .u64 xl, .slice (some ⟨g, o, none⟩) 480 480] 37) = W := ⟨_, rfl⟩
  rw [hwa] at hbx hba hfa
  obtain ⟨gb, hgb⟩ : ∃ s, w1.heap.size = s := ⟨_, rfl⟩
  rw [hgb] at hbx
  have HBx := Lib.hid hbx
  have HBa := Lib.hid hba
  have HFa := Lib.hid hfa
  clear hb1 hf1 hbx hba hfa HRd HB1 HF1
  go_wp2
  try rw [hwa]
  try rw [hgb]
  clear hwa hgb
  have hS : Fr Nob wa wa.drew := (Fr.refl _ wa).drew
  by_cases hls : xl = n
  · by_cases hdd : xd = dataB n
    · subst hls
      subst hdd
      refine Rg.begin (Fr Nob wa) [] (by kernel_rfl) ?_
      refine Rg.op 0 (some 15) hS (v := ?v0t) (a' := ?a0t) (hy := fun wz hwz => ?h0t) (ha := ?b0t) (h := ?_)
      case h0t => (go_simp; try with_reducible rfl)
      case b0t => (simp only [Act.put, List.setIfInBounds_toArray, List.set_cons_zero, List.set_cons_succ]; rfl)
      refine Rg.op 1 (some 16) hS (v := ?v1t) (a' := ?a1t) (hy := fun wz hwz => ?h1t) (ha := ?b1t) (h := ?_)
      case h1t => (go_simp; try with_reducible rfl)
      case b1t => (simp only [Act.put, List.setIfInBounds_toArray, List.set_cons_zero, List.set_cons_succ]; rfl)
      refine Rg.op 2 (some 17) hS (v := ?v2t) (a' := ?a2t) (hy := fun wz hwz => ?h2t) (ha := ?b2t) (h := ?_)
      case h2t => (go_simp; try with_reducible rfl)
      case b2t => (simp only [Act.put, List.setIfInBounds_toArray, List.set_cons_zero, List.set_cons_succ]; rfl)
      refine Rg.op 3 (some 18) hS (v := ?v3t) (a' := ?a3t) (hy := fun wz hwz => ?h3t) (ha := ?b3t) (h := ?_)
      case h3t => (go_simp; try with_reducible rfl)
      case b3t => (simp only [Act.put, List.setIfInBounds_toArray, List.set_cons_zero, List.set_cons_succ]; rfl)
      refine Rg.op 4 (some 19) hS (v := ?v4t) (a' := ?a4t) (hy := fun wz hwz => ?h4t) (ha := ?b4t) (h := ?_)
      case h4t => (have hb := HBx.out.fr hwz (fun h => h); have cc1 := Blk.cell hb 0; have hpp := Blk.lt hb; simp only [List.getElem?_toArray, List.getElem?_cons_zero, List.getElem?_cons_succ] at cc1; clear hb; go_simp; try with_reducible rfl)
      case b4t => (simp only [Act.put, List.setIfInBounds_toArray, List.set_cons_zero, List.set_cons_succ]; rfl)
      refine Rg.op 5 (some 20) hS (v := ?v5t) (a' := ?a5t) (hy := fun wz hwz => ?h5t) (ha := ?b5t) (h := ?_)
      case h5t => (go_simp; try with_reducible rfl)
      case b5t => (simp only [Act.put, List.setIfInBounds_toArray, List.set_cons_zero, List.set_cons_succ]; rfl)
      refine Rg.op 6 (some 21) hS (v := (.bool true)) (a' := ?a6t) (hy := fun wz hwz => ?h6t) (ha := ?b6t) (h := ?_)
      case h6t => (have y : ((no : Int) == (no : Int)) = true := (by rw [beq_iff_eq]); go_simp; try with_reducible rfl)
      case b6t => (simp only [Act.put, List.setIfInBounds_toArray, List.set_cons_zero, List.set_cons_succ]; rfl)
      refine Rg.op 7 (some 22) hS (v := ?v7t) (a' := ?a7t) (hy := fun wz hwz => ?h7t) (ha := ?b7t) (h := ?_)
      case h7t => (go_simp; try with_reducible rfl)
      case b7t => (simp only [Act.put, List.setIfInBounds_toArray, List.set_cons_zero, List.set_cons_succ]; rfl)
      refine Rg.op 8 (some 23) hS (v := ?v8t) (a' := ?a8t) (hy := fun wz hwz => ?h8t) (ha := ?b8t) (h := ?_)
      case h8t => (go_simp; try with_reducible rfl)
      case b8t => (simp only [Act.put, List.setIfInBounds_toArray, List.set_cons_zero, List.set_cons_succ]; rfl)
      refine Rg.op 9 (some 24) hS (v := ?v9t) (a' := ?a9t) (hy := fun wz hwz => ?h9t) (ha := ?b9t) (h := ?_)
      case h9t => (go_simp; try with_reducible rfl)
      case b9t => (simp only [Act.put, List.setIfInBounds_toArray, List.set_cons_zero, List.set_cons_succ]; rfl)
      refine Rg.op 10 (some 25) hS (v := ?v10t) (a' := ?a10t) (hy := fun wz hwz => ?h10t) (ha := ?b10t) (h := ?_)
      case h10t => (have hb := HBx.out.fr hwz (fun h => h); have cc1 := Blk.cell hb 1; have hpp := Blk.lt hb; simp only [List.getElem?_toArray, List.getElem?_cons_zero, List.getElem?_cons_succ] at cc1; clear hb; go_simp; try with_reducible rfl)
      case b10t => (simp only [Act.put, List.setIfInBounds_toArray, List.set_cons_zero, List.set_cons_succ]; rfl)
      refine Rg.op 11 (some 26) hS (v := ?v11t) (a' := ?a11t) (hy := fun wz hwz => ?h11t) (ha := ?b11t) (h := ?_)
      case h11t => (go_simp; try with_reducible rfl)
      case b11t => (simp only [Act.put, List.setIfInBounds_toArray, List.set_cons_zero, List.set_cons_succ]; rfl)
      refine Rg.op 12 (some 27) hS (v := ?v12t) (a' := ?a12t) (hy := fun wz hwz => ?h12t) (ha := ?b12t) (h := ?_)
      case h12t => (have y := ucv; go_simp; try with_reducible rfl)
      case b12t => (simp only [Act.put, List.setIfInBounds_toArray, List.set_cons_zero, List.set_cons_succ]; rfl)
      refine Rg.op 13 (some 28) hS (v := (.bool true)) (a' := ?a13t) (hy := fun wz hwz => ?h13t) (ha := ?b13t) (h := ?_)
      case h13t => (have y : ((xl : Int) == (xl : Int)) = true := (by rw [beq_iff_eq]); go_simp; try with_reducible rfl)
      case b13t => (simp only [Act.put, List.setIfInBounds_toArray, List.set_cons_zero, List.set_cons_succ]; rfl)
      refine Rg.op 14 (some 29) hS (v := ?v14t) (a' := ?a14t) (hy := fun wz hwz => ?h14t) (ha := ?b14t) (h := ?_)
      case h14t => (go_simp; try with_reducible rfl)
      case b14t => (simp only [Act.put, List.setIfInBounds_toArray, List.set_cons_zero, List.set_cons_succ]; rfl)
      refine Rg.op 15 (some 30) hS (v := ?v15t) (a' := ?a15t) (hy := fun wz hwz => ?h15t) (ha := ?b15t) (h := ?_)
      case h15t => (go_simp; try with_reducible rfl)
      case b15t => (simp only [Act.put, List.setIfInBounds_toArray, List.set_cons_zero, List.set_cons_succ]; rfl)
      refine Rg.op 16 (some 31) hS (v := ?v16t) (a' := ?a16t) (hy := fun wz hwz => ?h16t) (ha := ?b16t) (h := ?_)
      case h16t => (go_simp; try with_reducible rfl)
      case b16t => (simp only [Act.put, List.setIfInBounds_toArray, List.set_cons_zero, List.set_cons_succ]; rfl)
      refine Rg.op 17 (some 32) hS (v := ?v17t) (a' := ?a17t) (hy := fun wz hwz => ?h17t) (ha := ?b17t) (h := ?_)
      case h17t => (have hb := HBx.out.fr hwz (fun h => h); have cc1 := Blk.cell hb 2; have hpp := Blk.lt hb; simp only [List.getElem?_toArray, List.getElem?_cons_zero, List.getElem?_cons_succ] at cc1; clear hb; go_simp; try with_reducible rfl)
      case b17t => (simp only [Act.put, List.setIfInBounds_toArray, List.set_cons_zero, List.set_cons_succ]; rfl)
      refine Rg.op 18 (some 33) hS (v := ?v18t) (a' := ?a18t) (hy := fun wz hwz => ?h18t) (ha := ?b18t) (h := ?_)
      case h18t => (have y := conv_in (HBa.out.new hwz) 480; rw [hdl] at y; go_simp; try with_reducible rfl)
      case b18t => (simp only [Act.put, List.setIfInBounds_toArray, List.set_cons_zero, List.set_cons_succ]; rfl)
      refine Rg.op 19 (some 34) hS (v := ?v19t) (a' := ?a19t) (hy := fun wz hwz => ?h19t) (ha := ?b19t) (h := ?_)
      case h19t => (go_simp; try with_reducible rfl)
      case b19t => (simp only [Act.put, List.setIfInBounds_toArray, List.set_cons_zero, List.set_cons_succ]; rfl)
      refine Rg.call 20 (some 35) (hrun := ?h20t) (hcall := HDt.out _) (h := ?_)
      case h20t => (go_simp)
      rintro e wd ⟨rfl, hbd, hfd⟩
      have hSd : Fr Nob wa wd := hS.trans hfd
      have hbi := conv_in (bytesIn_of hbd) 480
      rw [dataB_length] at hbi
      clear hfd
      obtain ⟨gd, hgd⟩ : ∃ s, wa.drew.heap.size = s := ⟨_, rfl⟩
      rw [hgd] at hbi hbd ⊢
      clear hgd
      refine ⟨_, ?a20t, rfl, ?b20t, (fun _ => hSd), ?_⟩
      case b20t => (simp only [Act.put, List.setIfInBounds_toArray, List.set_cons_zero, List.set_cons_succ]; rfl)
      refine Rg.seq 21 (some 36) hSd (v := ?v21t) (a' := ?a21t) (hrun := ?h21t) (ha := ?b21t) (h := ?_)
      case h21t => (have y := hbi; go_simp; try with_reducible rfl)
      case b21t => (simp only [Act.put, List.setIfInBounds_toArray, List.set_cons_zero, List.set_cons_succ]; rfl)
      refine Rg.seq 22 (some 37) hSd (v := (.bool true)) (a' := ?a22t) (hrun := ?h22t) (ha := ?b22t) (h := ?_)
      case h22t => (go_simp; try with_reducible rfl)
      case b22t => (simp only [Act.put, List.setIfInBounds_toArray, List.set_cons_zero, List.set_cons_succ]; rfl)
      refine Rg.seq 23 (some 38) hSd (v := ?v23t) (a' := ?a23t) (hrun := ?h23t) (ha := ?b23t) (h := ?_)
      case h23t => (go_simp; try with_reducible rfl)
      case b23t => (simp only [Act.put, List.setIfInBounds_toArray, List.set_cons_zero, List.set_cons_succ]; rfl)
      refine Rg.seq 24 (some 6) hSd (v := ?v24t) (a' := ?a24t) (hrun := ?h24t) (ha := ?b24t) (h := ?_)
      case h24t => (go_simp; try with_reducible rfl)
      case b24t => (simp only [Act.put, List.setIfInBounds_toArray, List.set_cons_zero, List.set_cons_succ]; rfl)
      refine Rg.done _ (h := ?_)
      go_wp2
      go_ret
      exact ⟨by first | rfl | rw [decide_eq_true ⟨rfl, rfl⟩]; rfl, HFa.out.trans hSd⟩
    · subst hls
      have hne := str_ne hdd
      refine Rg.begin (Fr Nob wa) [] (by kernel_rfl) ?_
      refine Rg.op 0 (some 15) hS (v := ?v0f) (a' := ?a0f) (hy := fun wz hwz => ?h0f) (ha := ?b0f) (h := ?_)
      case h0f => (go_simp; try with_reducible rfl)
      case b0f => (simp only [Act.put, List.setIfInBounds_toArray, List.set_cons_zero, List.set_cons_succ]; rfl)
      refine Rg.op 1 (some 16) hS (v := ?v1f) (a' := ?a1f) (hy := fun wz hwz => ?h1f) (ha := ?b1f) (h := ?_)
      case h1f => (go_simp; try with_reducible rfl)
      case b1f => (simp only [Act.put, List.setIfInBounds_toArray, List.set_cons_zero, List.set_cons_succ]; rfl)
      refine Rg.op 2 (some 17) hS (v := ?v2f) (a' := ?a2f) (hy := fun wz hwz => ?h2f) (ha := ?b2f) (h := ?_)
      case h2f => (go_simp; try with_reducible rfl)
      case b2f => (simp only [Act.put, List.setIfInBounds_toArray, List.set_cons_zero, List.set_cons_succ]; rfl)
      refine Rg.op 3 (some 18) hS (v := ?v3f) (a' := ?a3f) (hy := fun wz hwz => ?h3f) (ha := ?b3f) (h := ?_)
      case h3f => (go_simp; try with_reducible rfl)
      case b3f => (simp only [Act.put, List.setIfInBounds_toArray, List.set_cons_zero, List.set_cons_succ]; rfl)
      refine Rg.op 4 (some 19) hS (v := ?v4f) (a' := ?a4f) (hy := fun wz hwz => ?h4f) (ha := ?b4f) (h := ?_)
      case h4f => (have hb := HBx.out.fr hwz (fun h => h); have cc1 := Blk.cell hb 0; have hpp := Blk.lt hb; simp only [List.getElem?_toArray, List.getElem?_cons_zero, List.getElem?_cons_succ] at cc1; clear hb; go_simp; try with_reducible rfl)
      case b4f => (simp only [Act.put, List.setIfInBounds_toArray, List.set_cons_zero, List.set_cons_succ]; rfl)
      refine Rg.op 5 (some 20) hS (v := ?v5f) (a' := ?a5f) (hy := fun wz hwz => ?h5f) (ha := ?b5f) (h := ?_)
      case h5f => (go_simp; try with_reducible rfl)
      case b5f => (simp only [Act.put, List.setIfInBounds_toArray, List.set_cons_zero, List.set_cons_succ]; rfl)
      refine Rg.op 6 (some 21) hS (v := (.bool true)) (a' := ?a6f) (hy := fun wz hwz => ?h6f) (ha := ?b6f) (h := ?_)
      case h6f => (have y : ((no : Int) == (no : Int)) = true := (by rw [beq_iff_eq]); go_simp; try with_reducible rfl)
      case b6f => (simp only [Act.put, List.setIfInBounds_toArray, List.set_cons_zero, List.set_cons_succ]; rfl)
      refine Rg.op 7 (some 22) hS (v := ?v7f) (a' := ?a7f) (hy := fun wz hwz => ?h7f) (ha := ?b7f) (h := ?_)
      case h7f => (go_simp; try with_reducible rfl)
      case b7f => (simp only [Act.put, List.setIfInBounds_toArray, List.set_cons_zero, List.set_cons_succ]; rfl)
      refine Rg.op 8 (some 23) hS (v := ?v8f) (a' := ?a8f) (hy := fun wz hwz => ?h8f) (ha := ?b8f) (h := ?_)
      case h8f => (go_simp; try with_reducible rfl)
      case b8f => (simp only [Act.put, List.setIfInBounds_toArray, List.set_cons_zero, List.set_cons_succ]; rfl)
      refine Rg.op 9 (some 24) hS (v := ?v9f) (a' := ?a9f) (hy := fun wz hwz => ?h9f) (ha := ?b9f) (h := ?_)
      case h9f => (go_simp; try with_reducible rfl)
      case b9f => (simp only [Act.put, List.setIfInBounds_toArray, List.set_cons_zero, List.set_cons_succ]; rfl)
      refine Rg.op 10 (some 25) hS (v := ?v10f) (a' := ?a10f) (hy := fun wz hwz => ?h10f) (ha := ?b10f) (h := ?_)
      case h10f => (have hb := HBx.out.fr hwz (fun h => h); have cc1 := Blk.cell hb 1; have hpp := Blk.lt hb; simp only [List.getElem?_toArray, List.getElem?_cons_zero, List.getElem?_cons_succ] at cc1; clear hb; go_simp; try with_reducible rfl)
      case b10f => (simp only [Act.put, List.setIfInBounds_toArray, List.set_cons_zero, List.set_cons_succ]; rfl)
      refine Rg.op 11 (some 26) hS (v := ?v11f) (a' := ?a11f) (hy := fun wz hwz => ?h11f) (ha := ?b11f) (h := ?_)
      case h11f => (go_simp; try with_reducible rfl)
      case b11f => (simp only [Act.put, List.setIfInBounds_toArray, List.set_cons_zero, List.set_cons_succ]; rfl)
      refine Rg.op 12 (some 27) hS (v := ?v12f) (a' := ?a12f) (hy := fun wz hwz => ?h12f) (ha := ?b12f) (h := ?_)
      case h12f => (have y := ucv; go_simp; try with_reducible rfl)
      case b12f => (simp only [Act.put, List.setIfInBounds_toArray, List.set_cons_zero, List.set_cons_succ]; rfl)
      refine Rg.op 13 (some 28) hS (v := (.bool true)) (a' := ?a13f) (hy := fun wz hwz => ?h13f) (ha := ?b13f) (h := ?_)
      case h13f => (have y : ((xl : Int) == (xl : Int)) = true := (by rw [beq_iff_eq]); go_simp; try with_reducible rfl)
      case b13f => (simp only [Act.put, List.setIfInBounds_toArray, List.set_cons_zero, List.set_cons_succ]; rfl)
      refine Rg.op 14 (some 29) hS (v := ?v14f) (a' := ?a14f) (hy := fun wz hwz => ?h14f) (ha := ?b14f) (h := ?_)
      case h14f => (go_simp; try with_reducible rfl)
      case b14f => (simp only [Act.put, List.setIfInBounds_toArray, List.set_cons_zero, List.set_cons_succ]; rfl)
      refine Rg.op 15 (some 30) hS (v := ?v15f) (a' := ?a15f) (hy := fun wz hwz => ?h15f) (ha := ?b15f) (h := ?_)
      case h15f => (go_simp; try with_reducible rfl)
      case b15f => (simp only [Act.put, List.setIfInBounds_toArray, List.set_cons_zero, List.set_cons_succ]; rfl)
      refine Rg.op 16 (some 31) hS (v := ?v16f) (a' := ?a16f) (hy := fun wz hwz => ?h16f) (ha := ?b16f) (h := ?_)
      case h16f => (go_simp; try with_reducible rfl)
      case b16f => (simp only [Act.put, List.setIfInBounds_toArray, List.set_cons_zero, List.set_cons_succ]; rfl)
      refine Rg.op 17 (some 32) hS (v := ?v17f) (a' := ?a17f) (hy := fun wz hwz => ?h17f) (ha := ?b17f) (h := ?_)
      case h17f => (have hb := HBx.out.fr hwz (fun h => h); have cc1 := Blk.cell hb 2; have hpp := Blk.lt hb; simp only [List.getElem?_toArray, List.getElem?_cons_zero, List.getElem?_cons_succ] at cc1; clear hb; go_simp; try with_reducible rfl)
      case b17f => (simp only [Act.put, List.setIfInBounds_toArray, List.set_cons_zero, List.set_cons_succ]; rfl)
      refine Rg.op 18 (some 33) hS (v := ?v18f) (a' := ?a18f) (hy := fun wz hwz => ?h18f) (ha := ?b18f) (h := ?_)
      case h18f => (have y := conv_in (HBa.out.new hwz) 480; rw [hdl] at y; go_simp; try with_reducible rfl)
      case b18f => (simp only [Act.put, List.setIfInBounds_toArray, List.set_cons_zero, List.set_cons_succ]; rfl)
      refine Rg.op 19 (some 34) hS (v := ?v19f) (a' := ?a19f) (hy := fun wz hwz => ?h19f) (ha := ?b19f) (h := ?_)
      case h19f => (go_simp; try with_reducible rfl)
      case b19f => (simp only [Act.put, List.setIfInBounds_toArray, List.set_cons_zero, List.set_cons_succ]; rfl)
      refine Rg.call 20 (some 35) (hrun := ?h20f) (hcall := HDt.out _) (h := ?_)
      case h20f => (go_simp)
      rintro e wd ⟨rfl, hbd, hfd⟩
      have hSd : Fr Nob wa wd := hS.trans hfd
      have hbi := conv_in (bytesIn_of hbd) 480
      rw [dataB_length] at hbi
      clear hfd
      obtain ⟨gd, hgd⟩ : ∃ s, wa.drew.heap.size = s := ⟨_, rfl⟩
      rw [hgd] at hbi hbd ⊢
      clear hgd
      refine ⟨_, ?a20f, rfl, ?b20f, (fun _ => hSd), ?_⟩
      case b20f => (simp only [Act.put, List.setIfInBounds_toArray, List.set_cons_zero, List.set_cons_succ]; rfl)
      refine Rg.seq 21 (some 36) hSd (v := ?v21f) (a' := ?a21f) (hrun := ?h21f) (ha := ?b21f) (h := ?_)
      case h21f => (have y := hbi; go_simp; try with_reducible rfl)
      case b21f => (simp only [Act.put, List.setIfInBounds_toArray, List.set_cons_zero, List.set_cons_succ]; rfl)
      refine Rg.seq 22 (some 37) hSd (v := (.bool false)) (a' := ?a22f) (hrun := ?h22f) (ha := ?b22f) (h := ?_)
      case h22f => (have y := hne; go_simp; try with_reducible rfl)
      case b22f => (simp only [Act.put, List.setIfInBounds_toArray, List.set_cons_zero, List.set_cons_succ]; rfl)
      refine Rg.seq 23 (some 38) hSd (v := ?v23f) (a' := ?a23f) (hrun := ?h23f) (ha := ?b23f) (h := ?_)
      case h23f => (go_simp; try with_reducible rfl)
      case b23f => (simp only [Act.put, List.setIfInBounds_toArray, List.set_cons_zero, List.set_cons_succ]; rfl)
      refine Rg.seq 24 (some 6) hSd (v := ?v24f) (a' := ?a24f) (hrun := ?h24f) (ha := ?b24f) (h := ?_)
      case h24f => (go_simp; try with_reducible rfl)
      case b24f => (simp only [Act.put, List.setIfInBounds_toArray, List.set_cons_zero, List.set_cons_succ]; rfl)
      refine Rg.done _ (h := ?_)
      go_wp2
      go_ret
      exact ⟨by first | rfl | rw [decide_eq_false (fun h => hdd h.2)]; rfl, HFa.out.trans hSd⟩
  · have hne : ((xl : Int) == (n : Int)) = false := by rw [beq_eq_false_iff_ne]; omega
    refine Rg.begin (Fr Nob wa) [] (by kernel_rfl) ?_
    refine Rg.op 0 (some 15) hS (v := ?v0a) (a' := ?a0a) (hy := fun wz hwz => ?h0a) (ha := ?b0a) (h := ?_)
    case h0a => (go_simp; try with_reducible rfl)
    case b0a => (simp only [Act.put, List.setIfInBounds_toArray, List.set_cons_zero, List.set_cons_succ]; rfl)
    refine Rg.op 1 (some 16) hS (v := ?v1a) (a' := ?a1a) (hy := fun wz hwz => ?h1a) (ha := ?b1a) (h := ?_)
    case h1a => (go_simp; try with_reducible rfl)
    case b1a => (simp only [Act.put, List.setIfInBounds_toArray, List.set_cons_zero, List.set_cons_succ]; rfl)
    refine Rg.op 2 (some 17) hS (v := ?v2a) (a' := ?a2a) (hy := fun wz hwz => ?h2a) (ha := ?b2a) (h := ?_)
    case h2a => (go_simp; try with_reducible rfl)
    case b2a => (simp only [Act.put, List.setIfInBounds_toArray, List.set_cons_zero, List.set_cons_succ]; rfl)
    refine Rg.op 3 (some 18) hS (v := ?v3a) (a' := ?a3a) (hy := fun wz hwz => ?h3a) (ha := ?b3a) (h := ?_)
    case h3a => (go_simp; try with_reducible rfl)
    case b3a => (simp only [Act.put, List.setIfInBounds_toArray, List.set_cons_zero, List.set_cons_succ]; rfl)
    refine Rg.op 4 (some 19) hS (v := ?v4a) (a' := ?a4a) (hy := fun wz hwz => ?h4a) (ha := ?b4a) (h := ?_)
    case h4a => (have hb := HBx.out.fr hwz (fun h => h); have cc1 := Blk.cell hb 0; have hpp := Blk.lt hb; simp only [List.getElem?_toArray, List.getElem?_cons_zero, List.getElem?_cons_succ] at cc1; clear hb; go_simp; try with_reducible rfl)
    case b4a => (simp only [Act.put, List.setIfInBounds_toArray, List.set_cons_zero, List.set_cons_succ]; rfl)
    refine Rg.op 5 (some 20) hS (v := ?v5a) (a' := ?a5a) (hy := fun wz hwz => ?h5a) (ha := ?b5a) (h := ?_)
    case h5a => (go_simp; try with_reducible rfl)
    case b5a => (simp only [Act.put, List.setIfInBounds_toArray, List.set_cons_zero, List.set_cons_succ]; rfl)
    refine Rg.op 6 (some 21) hS (v := (.bool true)) (a' := ?a6a) (hy := fun wz hwz => ?h6a) (ha := ?b6a) (h := ?_)
    case h6a => (have y : ((no : Int) == (no : Int)) = true := (by rw [beq_iff_eq]); go_simp; try with_reducible rfl)
    case b6a => (simp only [Act.put, List.setIfInBounds_toArray, List.set_cons_zero, List.set_cons_succ]; rfl)
    refine Rg.op 7 (some 22) hS (v := ?v7a) (a' := ?a7a) (hy := fun wz hwz => ?h7a) (ha := ?b7a) (h := ?_)
    case h7a => (go_simp; try with_reducible rfl)
    case b7a => (simp only [Act.put, List.setIfInBounds_toArray, List.set_cons_zero, List.set_cons_succ]; rfl)
    refine Rg.op 8 (some 23) hS (v := ?v8a) (a' := ?a8a) (hy := fun wz hwz => ?h8a) (ha := ?b8a) (h := ?_)
    case h8a => (go_simp; try with_reducible rfl)
    case b8a => (simp only [Act.put, List.setIfInBounds_toArray, List.set_cons_zero, List.set_cons_succ]; rfl)
    refine Rg.op 9 (some 24) hS (v := ?v9a) (a' := ?a9a) (hy := fun wz hwz => ?h9a) (ha := ?b9a) (h := ?_)
    case h9a => (go_simp; try with_reducible rfl)
    case b9a => (simp only [Act.put, List.setIfInBounds_toArray, List.set_cons_zero, List.set_cons_succ]; rfl)
    refine Rg.op 10 (some 25) hS (v := ?v10a) (a' := ?a10a) (hy := fun wz hwz => ?h10a) (ha := ?b10a) (h := ?_)
    case h10a => (have hb := HBx.out.fr hwz (fun h => h); have cc1 := Blk.cell hb 1; have hpp := Blk.lt hb; simp only [List.getElem?_toArray, List.getElem?_cons_zero, List.getElem?_cons_succ] at cc1; clear hb; go_simp; try with_reducible rfl)
    case b10a => (simp only [Act.put, List.setIfInBounds_toArray, List.set_cons_zero, List.set_cons_succ]; rfl)
    refine Rg.op 11 (some 26) hS (v := ?v11a) (a' := ?a11a) (hy := fun wz hwz => ?h11a) (ha := ?b11a) (h := ?_)
    case h11a => (go_simp; try with_reducible rfl)
    case b11a => (simp only [Act.put, List.setIfInBounds_toArray, List.set_cons_zero, List.set_cons_succ]; rfl)
    refine Rg.op 12 (some 27) hS (v := ?v12a) (a' := ?a12a) (hy := fun wz hwz => ?h12a) (ha := ?b12a) (h := ?_)
    case h12a => (have y := ucv; go_simp; try with_reducible rfl)
    case b12a => (simp only [Act.put, List.setIfInBounds_toArray, List.set_cons_zero, List.set_cons_succ]; rfl)
    refine Rg.op 13 (some 28) hS (v := (.bool false)) (a' := ?a13a) (hy := fun wz hwz => ?h13a) (ha := ?b13a) (h := ?_)
    case h13a => (have y := hne; go_simp; try with_reducible rfl)
    case b13a => (simp only [Act.put, List.setIfInBounds_toArray, List.set_cons_zero, List.set_cons_succ]; rfl)
    refine Rg.op 14 (some 29) hS (v := ?v14a) (a' := ?a14a) (hy := fun wz hwz => ?h14a) (ha := ?b14a) (h := ?_)
    case h14a => (go_simp; try with_reducible rfl)
    case b14a => (simp only [Act.put, List.setIfInBounds_toArray, List.set_cons_zero, List.set_cons_succ]; rfl)
    refine Rg.op 15 (some 30) hS (v := ?v15a) (a' := ?a15a) (hy := fun wz hwz => ?h15a) (ha := ?b15a) (h := ?_)
    case h15a => (go_simp; try with_reducible rfl)
    case b15a => (simp only [Act.put, List.setIfInBounds_toArray, List.set_cons_zero, List.set_cons_succ]; rfl)
    refine Rg.pass 16 (some 31) hS (a' := ?a16a) (ha := ?b16a) (h := ?_)
    case b16a => (simp only [Act.put, List.setIfInBounds_toArray, List.set_cons_zero, List.set_cons_succ]; rfl)
    refine Rg.pass 17 (some 32) hS (a' := ?a17a) (ha := ?b17a) (h := ?_)
    case b17a => (simp only [Act.put, List.setIfInBounds_toArray, List.set_cons_zero, List.set_cons_succ]; rfl)
    refine Rg.pass 18 (some 33) hS (a' := ?a18a) (ha := ?b18a) (h := ?_)
    case b18a => (simp only [Act.put, List.setIfInBounds_toArray, List.set_cons_zero, List.set_cons_succ]; rfl)
    refine Rg.pass 19 (some 34) hS (a' := ?a19a) (ha := ?b19a) (h := ?_)
    case b19a => (simp only [Act.put, List.setIfInBounds_toArray, List.set_cons_zero, List.set_cons_succ]; rfl)
    refine Rg.pass 20 (some 35) hS (a' := ?a20a) (ha := ?b20a) (h := ?_)
    case b20a => (simp only [Act.put, List.setIfInBounds_toArray, List.set_cons_zero, List.set_cons_succ]; rfl)
    refine Rg.pass 21 (some 36) hS (a' := ?a21a) (ha := ?b21a) (h := ?_)
    case b21a => (simp only [Act.put, List.setIfInBounds_toArray, List.set_cons_zero, List.set_cons_succ]; rfl)
    refine Rg.pass 22 (some 37) hS (a' := ?a22a) (ha := ?b22a) (h := ?_)
    case b22a => (simp only [Act.put, List.setIfInBounds_toArray, List.set_cons_zero, List.set_cons_succ]; rfl)
    refine Rg.op 23 (some 38) hS (v := ?v23a) (a' := ?a23a) (hy := fun wz hwz => ?h23a) (ha := ?b23a) (h := ?_)
    case h23a => (go_simp; try with_reducible rfl)
    case b23a => (simp only [Act.put, List.setIfInBounds_toArray, List.set_cons_zero, List.set_cons_succ]; rfl)
    refine Rg.op 24 (some 6) hS (v := ?v24a) (a' := ?a24a) (hy := fun wz hwz => ?h24a) (ha := ?b24a) (h := ?_)
    case h24a => (go_simp; try with_reducible rfl)
    case b24a => (simp only [Act.put, List.setIfInBounds_toArray, List.set_cons_zero, List.set_cons_succ]; rfl)
    refine Rg.done _ (h := ?_)
    go_wp2
    go_ret
    exact ⟨by first | rfl | rw [decide_eq_false (fun h => hls h.1)]; rfl, HFa.out.trans hS⟩
end Go.Proofs.YtilclfeaolhoeaaDoor
