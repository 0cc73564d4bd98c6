/-
  The bytes and the text of an empty plan.
-/
import Derived.Test.YtofabaeadnljbaaDoorPkJoin
import Derived.Test.YtofabaeadnljbaaDoorReg
import Derived.Test.YtofabaeadnljbaaDoorOwnF
namespace Go.Proofs.YtofabaeadnljbaaDoor
set_option linter.unusedSimpArgs false
set_option linter.unusedVariables false
open Go.RowKit

set_option maxHeartbeats 1600000 in
set_option maxRecDepth 100000 in
theorem Plan_zero (w : World) : Calls Tryd.prog 30 #[.agg #[.slice none 0 0, .slice none 0 0]] w fun e w' => ∃ v, e = .returned v ∧ Made w w' v (sealB (joinB [uvar 0])) := by
  have e0 : IntKind.u64.wrap 0 = 0 := by decide
  have HU : Hid (∀ W, Calls Tryd.prog 51 #[.int .u64 0] W fun e w' => ∃ v, e = .returned v ∧ Made W w' v (uvar 0)) := fun W => Uvar_any 0 W (by omega)
  have hu1 : (uvar 0).length = 1 := by rw [uvar_small (by omega)]; rfl
  obtain ⟨us, hus⟩ : ∃ us, uvar 0 = us := ⟨_, rfl⟩
  rw [hus] at HU hu1
  rw [hus]
  have HU1 := Lib.hid hu1
  clear hus hu1
  go_enter Tryd.func30, Tryd.ntmps30
  go_wp2_with fail
  refine (HU.out _).mono ?_
  rintro e w1 ⟨v1, rfl, g1, rfl, hb1, hg1, hg2, hf1⟩
  have HF1 : Hid (Fr Nob w w1) := ((Fr.refl Nob w).alloc _).trans hf1
  have hb0 : Blk w1 w.heap.size 53 #[.slice none 0 0, .slice none 0 0] := (Blk.new w _ _).fr hf1 (fun h => h)
  have HB1 := Lib.hid hb1
  rw [HU1.out]
  have HG1 := Lib.hid hg1
  have HG2 := Lib.hid hg2
  obtain ⟨W, hW⟩ : ∃ W, w1.alloc (.cells #[.slice (some ⟨g1, 0, none⟩) 1 1] 26) = W := ⟨_, rfl⟩
  have HFW : Hid (Fr Nob w1 W) := by rw [← hW]; exact (Fr.refl Nob w1).alloc _
  have hbW : Blk W w1.heap.size 26 #[.slice (some ⟨g1, 0, none⟩) 1 1] := by rw [← hW]; exact Blk.new _ _ _
  have hb0W := hb0.fr HFW.out (fun h => h)
  have c0 := hb0W.cell 0
  have c1 := hb0W.cell 1
  have d0 := hb0.cell 0
  have z0 := hb0W.lt
  have z1 := hb0.lt
  simp only [List.getElem?_toArray, List.getElem?_cons_zero, List.getElem?_cons_succ] at c0 c1 d0
  have HJ : Hid (Calls Tryd.prog 53 #[.slice (some ⟨w1.heap.size, 0, none⟩) 1 1] W fun e w' => ∃ v, e = .returned v ∧ Made W w' v (joinB [us])) := by
    refine Join_any (some ⟨w1.heap.size, 0, none⟩) 1 [us] W (fun _ => ⟨_, 0, rfl, fun j p hp => ?_⟩) (by simp) (by simp) (fun p hp => by
      rw [List.mem_singleton] at hp; subst hp; rw [HU1.out]; omega)
    have hj : j < 1 := (List.getElem?_eq_some_iff.1 hp).1
    obtain rfl : j = 0 := by omega
    have hp : us = p := by simpa using hp
    subst hp
    exact ⟨g1, 0, 1, by rw [HU1.out]; exact hbW.cell 0, HB1.out.new HFW.out⟩
  have hjl : 0 < (joinB [us]).length ∧ (joinB [us]).length ≤ 20 := by
    have h1 := uvar_pos us.length
    have h2 := uvar_le us.length (by rw [HU1.out]; omega)
    have h3 := HU1.out
    simp only [joinB, List.flatMap_cons, List.flatMap_nil, List.append_nil, List.length_append]
    omega
  obtain ⟨js, hjs⟩ : ∃ js, joinB [us] = js := ⟨_, rfl⟩
  rw [hjs] at HJ hjl
  have HJs := Lib.hid hjs
  have HJl := Lib.hid hjl
  clear hjs hjl hb0 hb0W hbW hb1 hf1 HU hg1 hg2
  go_wp2_with fail
  try rw [hW]
  go_loopw [3, 5, 17] (fun v _ i wr => v = .slice (some ⟨w1.heap.size, 0, none⟩) 1 1 ∧ i = .int .i64 0 ∧ W = wr) (fun _ _ _ _ => 0)
  case atStart => exact ⟨rfl, rfl, rfl⟩
  case round =>
    obtain ⟨rfl, rfl, rfl⟩ := hrel
    go_wp2_with fail
    go_loopw [3, 7, 30] (fun v _ i wr => v = .slice (some ⟨w1.heap.size, 0, none⟩) 1 1 ∧ i = .int .i64 0 ∧ W = wr) (fun _ _ _ _ => 0)
    case atStart => exact ⟨rfl, rfl, rfl⟩
    case round =>
      obtain ⟨rfl, rfl, rfl⟩ := hrel
      go_wp2_with fail
      refine HJ.out.mono ?_
      rintro e w2 ⟨v2, rfl, g2, rfl, hb2, hg2, hg3, hf2⟩
      have HSl := Lib.hid (Seal_any (some ⟨g2, 0, none⟩) js.length js w2 hb2 HJl.out.1 (by have := HJl.out.2; omega))
      go_wp2_with fail
      refine HSl.out.mono ?_
      rintro e w3 ⟨v3, rfl, g3, rfl, hb3, hg4, hg5, hf3⟩
      have hFE := ((HF1.out.trans HFW.out).trans hf2).trans hf3
      have hz := ((HF1.out.trans HFW.out).trans hf2).size
      have HB3 := Lib.hid hb3
      clear hb3 hf3 HSl
      go_wp2
      go_ret
      exact ⟨.slice (some ⟨g3, 0, none⟩) (sealB js).length (sealB js).length, rfl, g3, by rw [HJs.out], by rw [HJs.out]; exact HB3.out, by omega, hg5, hFE⟩
end Go.Proofs.YtofabaeadnljbaaDoor
