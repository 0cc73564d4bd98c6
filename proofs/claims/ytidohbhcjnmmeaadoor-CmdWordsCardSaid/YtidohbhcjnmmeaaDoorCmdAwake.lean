/-
  Commands: awake.
-/
import Derived.Test.YtidohbhcjnmmeaaDoorCmdLaw2
import Derived.Test.YtidohbhcjnmmeaaDoorCmdRef7
namespace Go.Proofs.YtidohbhcjnmmeaaDoor
set_option linter.unusedSimpArgs false
set_option linter.unusedVariables false
open Go.RowKit

instance decI64 (n : Int) : Decidable (I64 n) := by unfold I64; infer_instance
theorem one_small : I64 1 ∧ I64 2 := by decide
def nodeCm : Cm := { kind := 1, op := 1, line := [(1, 2)] }
theorem nodeCm_ok : nodeCm.Ok := ⟨by decide, by decide, by decide, by decide, by decide, fun z hz => by
  simp only [nodeCm, List.mem_cons, List.not_mem_nil, or_false] at hz
  subst hz
  exact one_small⟩

set_option maxHeartbeats 6400000 in
set_option maxRecDepth 100000 in
theorem awake_any (w : World) (he : Env w) : Calls Tryd.prog 11 #[] w fun e w' => e = .returned (.bool true) ∧ Fr Nob w w' := by
  have qP := len_Ps
  have HEn := Lib.hid he
  have HP : Hid (Calls Tryd.prog 9 #[.string ⟨#[110, 111, 100, 101, 32, 49, 32, 50]⟩] w fun e w' => ∃ v, e = .returned (.tuple #[v, .int .i64 0]) ∧ CmIn w' nodeCm v ∧ Fr Nob w w') := by
    have := Parse_any (tx nodeLine) w he (by decide)
    rw [bs_tx, node_parse] at this
    exact this
  have HT : Hid (∀ v W, Env W → CmIn W nodeCm v → Calls Tryd.prog 10 #[v] W fun e w' => e = .returned (.tuple #[.string ⟨#[110, 111, 100, 101, 32, 49, 32, 50]⟩, .int .i64 0]) ∧ Fr Nob W w') := by
    intro v W hE hC
    refine (Text_any nodeCm v W hE hC nodeCm_ok (by decide)).mono ?_
    rintro e w' ⟨h1, h2⟩
    have e1 : textC nodeCm = some nodeLine := node_text
    rw [e1] at h1
    exact ⟨h1, h2⟩
  clear he
  go_enter Tryd.func11, Tryd.ntmps11
  go_wp2_with fail
  refine HP.out.mono ?_
  rintro e w1 ⟨v, rfl, hcm, hf1⟩
  have HF1 := Lib.hid hf1
  have hE1 := HEn.out.new hf1
  obtain ⟨A, m, hv, hm, hpt⟩ := hcm
  unfold Cm.v nodeCm at hv
  dsimp only at hv
  subst hv
  obtain ⟨g, o, rfl, hcc⟩ := hpt (by simp [nodeCm])
  obtain ⟨c0, c1⟩ := hcc 0 (1, 2) rfl
  rw [Nat.zero_mul, Nat.add_zero] at c0 c1
  dsimp only at c0 c1
  have hgz := cell_lt c0
  dsimp only at hgz
  have HT2 : Hid (∀ W, Fr Nob w1 W → Calls Tryd.prog 10 #[.agg #[.int .i64 1, .int .i64 1, .int .i64 0, .int .i64 0, .bool false, .slice (some ⟨g, o, none⟩) 1 m, .int .i64 0, .int .i64 0, .int .i64 0, .int .i64 0, .int .i64 0]] W fun e w' => e = .returned (.tuple #[.string ⟨#[110, 111, 100, 101, 32, 49, 32, 50]⟩, .int .i64 0]) ∧ Fr Nob W w') := fun W hW =>
    HT.out _ W (hE1.new hW) ⟨some ⟨g, o, none⟩, m, rfl, hm, hpt.new hW⟩
  have hf2 : Fr Nob w1 (w1.alloc (.cells #[.int .i64 1, .int .i64 1, .int .i64 0, .int .i64 0, .bool false, .slice (some ⟨g, o, none⟩) 1 m, .int .i64 0, .int .i64 0, .int .i64 0, .int .i64 0, .int .i64 0] 32)) := (Fr.refl _ _).alloc _
  have hbn : Blk (w1.alloc (.cells #[.int .i64 1, .int .i64 1, .int .i64 0, .int .i64 0, .bool false, .slice (some ⟨g, o, none⟩) 1 m, .int .i64 0, .int .i64 0, .int .i64 0, .int .i64 0, .int .i64 0] 32)) w1.heap.size 32 #[.int .i64 1, .int .i64 1, .int .i64 0, .int .i64 0, .bool false, .slice (some ⟨g, o, none⟩) 1 m, .int .i64 0, .int .i64 0, .int .i64 0, .int .i64 0, .int .i64 0] := Blk.new w1 _ _
  have HF2 := Lib.hid hf2
  have HBn := Lib.hid hbn
  clear hcc hf1 hE1 HP HT hf2 hbn
  go_wp2_with fail
  refine (HT2.out _ HF2.out).mono ?_
  rintro e w3 ⟨rfl, hf3⟩
  have HF3 := Lib.hid hf3
  have hb3 := HBn.out.fr hf3 (fun h => h)
  have d0 := hb3.cell 0
  have d1 := hb3.cell 1
  have d5 := hb3.cell 5
  have hz3 := hb3.lt
  simp only [List.getElem?_toArray, List.getElem?_cons_zero, List.getElem?_cons_succ] at d0 d1 d5
  have c1' := ((HF2.out.trans hf3).cell (p := ⟨g, o + 1, none⟩) hgz (fun h => h)).trans c1
  have hgz' := Nat.lt_of_lt_of_le hgz (HF2.out.trans hf3).size
  have HFE := Lib.hid ((HF1.out.trans HF2.out).trans hf3)
  clear hb3 hf3 c0 c1
  go_wp2
  go_ret
  exact ⟨rfl, HFE.out⟩
end Go.Proofs.YtidohbhcjnmmeaaDoor
