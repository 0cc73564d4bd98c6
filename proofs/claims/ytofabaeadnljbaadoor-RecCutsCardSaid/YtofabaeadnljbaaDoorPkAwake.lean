/-
  What the document fixes of records (awake of layer 21).
-/
import Derived.Test.YtofabaeadnljbaaDoorPkNodeOf
import Derived.Test.YtofabaeadnljbaaDoorPkPlan0
import Derived.Test.YtofabaeadnljbaaDoorPkText0
namespace Go.Proofs.YtofabaeadnljbaaDoor
set_option linter.unusedSimpArgs false
set_option linter.unusedVariables false
open Go.RowKit

theorem one_b : (⟨1, 0, 0, 0⟩ : Nd).b = [2, 0, 0, 0] := by
  have h0 : intB 0 = [0] := by
    unfold intB; rw [if_neg (by omega), uvar_small (by decide)]; rfl
  have h1 : intB 1 = [2] := by
    unfold intB; rw [if_neg (by omega), uvar_small (by decide)]; rfl
  unfold Nd.b Nd.l nums nums nums nums nums
  rw [h0, h1]; rfl
theorem one_ok : (⟨1, 0, 0, 0⟩ : Nd).Ok := ⟨by decide, by decide, by decide, by decide, by decide, by decide, by decide, by decide⟩
theorem plan0_len : 4 < (sealB (joinB [uvar 0])).length := by
  have h1 := uvar_pos (uvar 0).length
  unfold sealB sumB
  simp only [joinB, List.flatMap_cons, List.flatMap_nil, List.append_nil, List.length_append, List.length_cons, List.length_nil]
  omega

set_option maxHeartbeats 1600000 in
set_option maxRecDepth 100000 in
theorem awake21_any (w : World) : Calls Tryd.prog 11 #[] w fun e w' => e = .returned (.bool true) ∧ Fr Nob w w' := by
  have hno := nodeOf_b ⟨1, 0, 0, 0⟩ one_ok
  rw [one_b] at hno
  obtain ⟨w1, hw1⟩ : ∃ W, w.alloc (.cells #[.int .u8 2, .int .u8 0, .int .u8 0, .int .u8 0] 5) = W := ⟨_, rfl⟩
  have HF1 : Hid (Fr Nob w w1) := by rw [← hw1]; exact (Fr.refl Nob w).alloc _
  have hb1 : Blk w1 w.heap.size 5 (bts [2, 0, 0, 0]).toArray := by rw [← hw1]; exact Blk.new w _ _
  have hN := NodeOf_any (some ⟨w.heap.size, 0, none⟩) 4 [2, 0, 0, 0] w1 ⟨bytesIn_of hb1, by simp, .inr ⟨_, rfl⟩⟩ (by simp)
  rw [hno] at hN
  have HN : Hid (Calls Tryd.prog 8 #[.slice (some ⟨w.heap.size, 0, none⟩) 4 4] w1 fun e w' => e = .returned (.tuple #[.agg #[.int .i64 1, .int .i64 0, .int .i64 0, .int .i64 0], .int .i64 0]) ∧ Fr Nob w1 w') := hN
  have HNd : Hid (∀ W, Calls Tryd.prog 7 #[.agg #[.int .i64 1, .int .i64 0, .int .i64 0, .int .i64 0]] W fun e w' => ∃ v, e = .returned v ∧ Made W w' v [2, 0, 0, 0]) := by
    intro W
    have := Node_any ⟨1, 0, 0, 0⟩ W one_ok
    rw [one_b] at this
    exact this
  have HT := Lib.hid (fun W => Text_zero W)
  have HP := Lib.hid (fun W => Plan_zero W)
  have hpl := plan0_len
  obtain ⟨ps, hps⟩ : ∃ ps, sealB (joinB [uvar 0]) = ps := ⟨_, rfl⟩
  rw [hps] at HP hpl
  have qL := len_bytes
  clear hno hN hb1 hps
  go_enter Tryd.func11, Tryd.ntmps11
  go_wp2_with fail
  try rw [hw1]
  refine HN.out.mono ?_
  rintro e w2 ⟨rfl, hf2⟩
  have HF2 : Hid (Fr Nob w w2) := HF1.out.trans hf2
  clear hf2 HN hw1 HF1
  go_wp2_with fail
  have HF3 : Hid (Fr Nob w (w2.alloc (.cells #[.int .i64 1, .int .i64 0, .int .i64 0, .int .i64 0] 25))) := HF2.out.alloc _
  have HB3 : Hid (Blk (w2.alloc (.cells #[.int .i64 1, .int .i64 0, .int .i64 0, .int .i64 0] 25)) w2.heap.size 25 #[.int .i64 1, .int .i64 0, .int .i64 0, .int .i64 0]) := Blk.new w2 _ _
  refine (HNd.out _).mono ?_
  rintro e w4 ⟨v, rfl, g, rfl, hb4, hg1, hg2, hf4⟩
  have hcv := conv_in hb4 4
  have hcv : (convert 26 9 (.slice (some ⟨g, 0, none⟩) 4 4)).run Tryd.prog w4 = .ok (.string ⟨#[2, 0, 0, 0]⟩) w4 := hcv
  have HF4 : Hid (Fr Nob w w4) := HF3.out.trans hf4
  have hB4 := HB3.out.fr hf4 (fun h => h)
  have d0 := hB4.cell 0
  have z0 := hB4.lt
  simp only [List.getElem?_toArray, List.getElem?_cons_zero, List.getElem?_cons_succ] at d0
  clear hb4 hf4 hB4
  rw [show ([2, 0, 0, 0] : List UInt8).length = 4 from rfl]
  go_wp2_with fail
  refine (HT.out _).mono ?_
  rintro e w5 ⟨rfl, hf5⟩
  have HF5 : Hid (Fr Nob w w5) := HF4.out.trans hf5
  clear hf5 d0 z0
  go_wp2_with fail
  refine (HP.out _).mono ?_
  rintro e w6 ⟨v6, rfl, g6, rfl, hb6, _, _, hf6⟩
  have HF6 : Hid (Fr Nob w w6) := HF5.out.trans hf6
  have h4 : (4 : Int) < (ps.length : Int) := by omega
  clear hb6 hf6
  go_wp2
  try (rw [qL]; go_wp2)
  go_ret
  exact ⟨rfl, HF6.out⟩
end Go.Proofs.YtofabaeadnljbaaDoor
