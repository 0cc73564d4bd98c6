/-
  The text of an empty plan.
-/
import Derived.Test.YtofabaeadnljbaaDoorPkJoin
import Derived.Test.YtofabaeadnljbaaDoorReg
import Derived.Test.YtofabaeadnljbaaDoorOwnF
namespace Go.Proofs.YtofabaeadnljbaaDoor
set_option linter.unusedSimpArgs false
set_option linter.unusedVariables false
open Go.RowKit

set_option maxHeartbeats 1600000 in
set_option maxRecDepth 100000 in
theorem String_zero (p : Nat) (w : World) (h : Blk w p 104 #[.pointer none, .slice none 0 0]) : Calls Tryd.prog 50 #[.pointer (some ⟨p, 0, none⟩)] w fun e w' => e = .returned (.string ⟨#[]⟩) ∧ Fr Nob w w' := by
  have HB := Lib.hid h
  have hp := h.lt
  have hSD : ∀ W : World, (Builtin.unsafeSliceData_ #[26] 125 #[.slice none 0 0]).run Tryd.prog W = .ok (.pointer none) W := fun _ => rfl
  have hUS : ∀ W : World, (Builtin.unsafeString_ #[125, 3] 9 #[.pointer none, .int .i64 0]).run Tryd.prog W = .ok (.string ⟨#[]⟩) W := fun _ => rfl
  clear h
  go_enter Tryd.func50, Tryd.ntmps50
  go_wp2
  have hS : Fr Nob w w.drew := (Fr.refl _ w).drew
  refine Rg.begin (Fr Nob w) [] (by kernel_rfl) ?_
  refine Rg.op 0 (some 3) hS (v := ?v0) (a' := ?a0) (hy := fun wz hwz => ?h0) (ha := ?b0) (h := ?_)
  case h0 => (go_simp; try with_reducible rfl)
  case b0 => (simp only [Act.put, List.setIfInBounds_toArray, List.set_cons_zero, List.set_cons_succ]; rfl)
  refine Rg.op 1 (some 4) hS (v := ?v1) (a' := ?a1) (hy := fun wz hwz => ?h1) (ha := ?b1) (h := ?_)
  case h1 => (have hb := (HB.out.fr hwz (fun h => h)); have cc := hb.cell 1; have hp := hb.lt; simp only [List.getElem?_toArray, List.getElem?_cons_zero, List.getElem?_cons_succ] at cc; clear hb; go_simp; try with_reducible rfl)
  case b1 => (simp only [Act.put, List.setIfInBounds_toArray, List.set_cons_zero, List.set_cons_succ]; rfl)
  refine Rg.op 2 (some 5) hS (v := ?v2) (a' := ?a2) (hy := fun wz hwz => ?h2) (ha := ?b2) (h := ?_)
  case h2 => (go_simp; try with_reducible rfl)
  case b2 => (simp only [Act.put, List.setIfInBounds_toArray, List.set_cons_zero, List.set_cons_succ]; rfl)
  refine Rg.op 3 (some 6) hS (v := ?v3) (a' := ?a3) (hy := fun wz hwz => ?h3) (ha := ?b3) (h := ?_)
  case h3 => (have hb := (HB.out.fr hwz (fun h => h)); have cc := hb.cell 1; have hp := hb.lt; simp only [List.getElem?_toArray, List.getElem?_cons_zero, List.getElem?_cons_succ] at cc; clear hb; go_simp; try with_reducible rfl)
  case b3 => (simp only [Act.put, List.setIfInBounds_toArray, List.set_cons_zero, List.set_cons_succ]; rfl)
  refine Rg.op 4 (some 7) hS (v := ?v4) (a' := ?a4) (hy := fun wz hwz => ?h4) (ha := ?b4) (h := ?_)
  case h4 => (go_simp; try with_reducible rfl)
  case b4 => (simp only [Act.put, List.setIfInBounds_toArray, List.set_cons_zero, List.set_cons_succ]; rfl)
  refine Rg.op 5 (some 8) hS (v := ?v5) (a' := ?a5) (hy := fun wz hwz => ?h5) (ha := ?b5) (h := ?_)
  case h5 => (go_simp; try with_reducible rfl)
  case b5 => (simp only [Act.put, List.setIfInBounds_toArray, List.set_cons_zero, List.set_cons_succ]; rfl)
  refine Rg.op 6 (some 9) hS (v := ?v6) (a' := ?a6) (hy := fun wz hwz => ?h6) (ha := ?b6) (h := ?_)
  case h6 => (have hb := (HB.out.fr hwz (fun h => h)); have cc := hb.cell 1; have hp := hb.lt; simp only [List.getElem?_toArray, List.getElem?_cons_zero, List.getElem?_cons_succ] at cc; clear hb; go_simp; try with_reducible rfl)
  case b6 => (simp only [Act.put, List.setIfInBounds_toArray, List.set_cons_zero, List.set_cons_succ]; rfl)
  refine Rg.op 7 (some 10) hS (v := ?v7) (a' := ?a7) (hy := fun wz hwz => ?h7) (ha := ?b7) (h := ?_)
  case h7 => (go_simp; try with_reducible rfl)
  case b7 => (simp only [Act.put, List.setIfInBounds_toArray, List.set_cons_zero, List.set_cons_succ]; rfl)
  refine Rg.op 8 (some 11) hS (v := ?v8) (a' := ?a8) (hy := fun wz hwz => ?h8) (ha := ?b8) (h := ?_)
  case h8 => (have hb := (HB.out.fr hwz (fun h => h)); have cc := hb.cell 1; have hp := hb.lt; simp only [List.getElem?_toArray, List.getElem?_cons_zero, List.getElem?_cons_succ] at cc; clear hb; go_simp; try with_reducible rfl)
  case b8 => (simp only [Act.put, List.setIfInBounds_toArray, List.set_cons_zero, List.set_cons_succ]; rfl)
  refine Rg.op 9 (some 12) hS (v := ?v9) (a' := ?a9) (hy := fun wz hwz => ?h9) (ha := ?b9) (h := ?_)
  case h9 => (go_simp; try with_reducible rfl)
  case b9 => (simp only [Act.put, List.setIfInBounds_toArray, List.set_cons_zero, List.set_cons_succ]; rfl)
  refine Rg.op 10 (some 13) hS (v := ?v10) (a' := ?a10) (hy := fun wz hwz => ?h10) (ha := ?b10) (h := ?_)
  case h10 => (go_simp; try with_reducible rfl)
  case b10 => (simp only [Act.put, List.setIfInBounds_toArray, List.set_cons_zero, List.set_cons_succ]; rfl)
  refine Rg.op 11 (some 2) hS (v := ?v11) (a' := ?a11) (hy := fun wz hwz => ?h11) (ha := ?b11) (h := ?_)
  case h11 => (go_simp; try with_reducible rfl)
  case b11 => (simp only [Act.put, List.setIfInBounds_toArray, List.set_cons_zero, List.set_cons_succ]; rfl)
  refine Rg.done _ (h := ?_)
  go_wp2
  go_ret
  exact ⟨rfl, hS⟩

set_option maxHeartbeats 1600000 in
set_option maxRecDepth 100000 in
theorem Text_zero (w : World) : Calls Tryd.prog 29 #[.agg #[.slice none 0 0, .slice none 0 0]] w fun e w' => e = .returned (.string ⟨#[]⟩) ∧ Fr Nob w w' := by
  obtain ⟨W, hW⟩ : ∃ W, (w.alloc (.cells #[.slice none 0 0, .slice none 0 0] 53)).alloc (.cells #[.pointer none, .slice none 0 0] 104) = W := ⟨_, rfl⟩
  have HFW : Hid (Fr Nob w W) := by rw [← hW]; exact ((Fr.refl Nob w).alloc _).alloc _
  have hb0 : Blk W w.heap.size 53 #[.slice none 0 0, .slice none 0 0] := by rw [← hW]; exact (Blk.new w _ _).alloc _
  have hb1 : Blk W (w.heap.size + 1) 104 #[.pointer none, .slice none 0 0] := by
    rw [← hW]
    have := Blk.new (w.alloc (.cells #[.slice none 0 0, .slice none 0 0] 53)) 104 #[.pointer none, .slice none 0 0]
    rwa [World.size_alloc] at this
  have HS := Lib.hid (String_zero _ W hb1)
  have c0 := hb0.cell 0
  have c1 := hb0.cell 1
  have z0 := hb0.lt
  simp only [List.getElem?_toArray, List.getElem?_cons_zero, List.getElem?_cons_succ] at c0 c1
  clear hb0 hb1
  go_enter Tryd.func29, Tryd.ntmps29
  go_wp2_with fail
  try rw [hW]
  go_loopw [5, 14] (fun _ i wr => i = .int .i64 0 ∧ W = wr) (fun _ _ _ => 0)
  case atStart => exact ⟨rfl, rfl⟩
  case round =>
    obtain ⟨rfl, rfl⟩ := hrel
    go_wp2_with fail
    go_loopw [7, 8, 10, 35] (fun _ _ _ i wr => i = .int .i64 0 ∧ W = wr) (fun _ _ _ _ _ => 0)
    case atStart => exact ⟨rfl, rfl⟩
    case round =>
      obtain ⟨rfl, rfl⟩ := hrel
      go_wp2_with fail
      refine HS.out.mono ?_
      rintro e w2 ⟨rfl, hf2⟩
      have hFE := HFW.out.trans hf2
      have HFE := Lib.hid hFE
      clear hf2 HS hFE
      go_wp2
      go_ret
      exact ⟨rfl, HFE.out⟩
end Go.Proofs.YtofabaeadnljbaaDoor
