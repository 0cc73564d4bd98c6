/-
  What LogBounds comes to: true, whatever place and number of sectors.
-/
import Derived.Test.YtieiopeblleheaaWalAwake
namespace Go.Proofs.Ytieiopeblleheaa
set_option linter.unusedSimpArgs false
set_option linter.unusedVariables false
open Go.RowKit

set_option maxHeartbeats 800000 in
set_option maxRecDepth 100000 in
theorem Bounds_a (i n : Int) (w : World) (i0 : -9223372036854775808 ≤ i) (i1 : i ≤ 9223372036854775807) (n0 : -9223372036854775808 ≤ n) (n1 : n ≤ 9223372036854775807) (h1 : n < 16) :
    Calls Try.prog 7 #[.int .i64 i, .int .i64 n] w fun e w' => e = .returned (.bool true) ∧ Fr Nob w w' := by
  have t1 : decide (16 ≤ n) = false := by rw [decide_eq_false_iff_not]; omega
  go_enter Try.func7, Try.ntmps7
  go_wp2_with fail
  refine (New_ok 100 _ (by omega) (by omega)).mono ?_
  rintro e w1 ⟨d, rfl, hd, hD1, hf1⟩
  rw [show (100 : Int).toNat = 100 from rfl] at hD1
  have HOp := Lib.hid (Open_bad i n hD1 i0 i1 (by rw [(DS.new_facts 100).1]; omega))
  have HF1 := Lib.hid hf1
  clear hD1 hf1
  go_wp2_with fail
  refine HOp.out.mono ?_
  rintro e w2 ⟨rfl, rfl⟩
  go_wp2_with fail
  refine (awake4_any _).mono ?_
  rintro e w3 ⟨rfl, hf3⟩
  have HF3 := Lib.hid (HF1.out.trans hf3)
  clear hf3
  go_wp2
  go_ret
  exact ⟨rfl, HF3.out⟩
set_option maxHeartbeats 800000 in
set_option maxRecDepth 100000 in
theorem Bounds_b (i n : Int) (w : World) (i0 : -9223372036854775808 ≤ i) (i1 : i ≤ 9223372036854775807) (n0 : -9223372036854775808 ≤ n) (n1 : n ≤ 9223372036854775807) (h1 : 32768 < n) :
    Calls Try.prog 7 #[.int .i64 i, .int .i64 n] w fun e w' => e = .returned (.bool true) ∧ Fr Nob w w' := by
  have t1 : decide (16 ≤ n) = true := by rw [decide_eq_true_iff]; omega
  have t2 : decide (n ≤ 32768) = false := by rw [decide_eq_false_iff_not]; omega
  go_enter Try.func7, Try.ntmps7
  go_wp2_with fail
  refine (New_ok 100 _ (by omega) (by omega)).mono ?_
  rintro e w1 ⟨d, rfl, hd, hD1, hf1⟩
  rw [show (100 : Int).toNat = 100 from rfl] at hD1
  have HOp := Lib.hid (Open_bad i n hD1 i0 i1 (by rw [(DS.new_facts 100).1]; omega))
  have HF1 := Lib.hid hf1
  clear hD1 hf1
  go_wp2_with fail
  refine HOp.out.mono ?_
  rintro e w2 ⟨rfl, rfl⟩
  go_wp2_with fail
  refine (awake4_any _).mono ?_
  rintro e w3 ⟨rfl, hf3⟩
  have HF3 := Lib.hid (HF1.out.trans hf3)
  clear hf3
  go_wp2
  go_ret
  exact ⟨rfl, HF3.out⟩
set_option maxHeartbeats 800000 in
set_option maxRecDepth 100000 in
theorem Bounds_c (i n : Int) (w : World) (i0 : -9223372036854775808 ≤ i) (i1 : i ≤ 9223372036854775807) (n0 : -9223372036854775808 ≤ n) (n1 : n ≤ 9223372036854775807) (h1 : i < 0) (g1 : 16 ≤ n) (g2 : n ≤ 32768) :
    Calls Try.prog 7 #[.int .i64 i, .int .i64 n] w fun e w' => e = .returned (.bool true) ∧ Fr Nob w w' := by
  have t1 : decide (16 ≤ n) = true := by rw [decide_eq_true_iff]; omega
  have t2 : decide (n ≤ 32768) = true := by rw [decide_eq_true_iff]; omega
  have t3 : decide (0 ≤ i) = false := by rw [decide_eq_false_iff_not]; omega
  go_enter Try.func7, Try.ntmps7
  go_wp2_with fail
  refine (New_ok 100 _ (by omega) (by omega)).mono ?_
  rintro e w1 ⟨d, rfl, hd, hD1, hf1⟩
  rw [show (100 : Int).toNat = 100 from rfl] at hD1
  have HOp := Lib.hid (Open_bad i n hD1 i0 i1 (by rw [(DS.new_facts 100).1]; omega))
  have HF1 := Lib.hid hf1
  clear hD1 hf1
  go_wp2_with fail
  refine HOp.out.mono ?_
  rintro e w2 ⟨rfl, rfl⟩
  go_wp2_with fail
  refine (awake4_any _).mono ?_
  rintro e w3 ⟨rfl, hf3⟩
  have HF3 := Lib.hid (HF1.out.trans hf3)
  clear hf3
  go_wp2
  go_ret
  exact ⟨rfl, HF3.out⟩
set_option maxHeartbeats 800000 in
set_option maxRecDepth 100000 in
theorem Bounds_d (i n : Int) (w : World) (i0 : -9223372036854775808 ≤ i) (i1 : i ≤ 9223372036854775807) (n0 : -9223372036854775808 ≤ n) (n1 : n ≤ 9223372036854775807) (h1 : 100 < i) (g1 : 16 ≤ n) (g2 : n ≤ 32768) :
    Calls Try.prog 7 #[.int .i64 i, .int .i64 n] w fun e w' => e = .returned (.bool true) ∧ Fr Nob w w' := by
  have t1 : decide (16 ≤ n) = true := by rw [decide_eq_true_iff]; omega
  have t2 : decide (n ≤ 32768) = true := by rw [decide_eq_true_iff]; omega
  have t3 : decide (0 ≤ i) = true := by rw [decide_eq_true_iff]; omega
  have t4 : decide (i ≤ 100) = false := by rw [decide_eq_false_iff_not]; omega
  go_enter Try.func7, Try.ntmps7
  go_wp2_with fail
  refine (New_ok 100 _ (by omega) (by omega)).mono ?_
  rintro e w1 ⟨d, rfl, hd, hD1, hf1⟩
  rw [show (100 : Int).toNat = 100 from rfl] at hD1
  have HOp := Lib.hid (Open_bad i n hD1 i0 i1 (by rw [(DS.new_facts 100).1]; omega))
  have HF1 := Lib.hid hf1
  clear hD1 hf1
  go_wp2_with fail
  refine HOp.out.mono ?_
  rintro e w2 ⟨rfl, rfl⟩
  go_wp2_with fail
  refine (awake4_any _).mono ?_
  rintro e w3 ⟨rfl, hf3⟩
  have HF3 := Lib.hid (HF1.out.trans hf3)
  clear hf3
  go_wp2
  go_ret
  exact ⟨rfl, HF3.out⟩
set_option maxHeartbeats 800000 in
set_option maxRecDepth 100000 in
theorem Bounds_e (i n : Int) (w : World) (i0 : -9223372036854775808 ≤ i) (i1 : i ≤ 9223372036854775807) (n0 : -9223372036854775808 ≤ n) (n1 : n ≤ 9223372036854775807) (h1 : 100 - i < n) (g0 : 0 ≤ i) (g3 : i ≤ 100) (g1 : 16 ≤ n) (g2 : n ≤ 32768) :
    Calls Try.prog 7 #[.int .i64 i, .int .i64 n] w fun e w' => e = .returned (.bool true) ∧ Fr Nob w w' := by
  have t1 : decide (16 ≤ n) = true := by rw [decide_eq_true_iff]; omega
  have t2 : decide (n ≤ 32768) = true := by rw [decide_eq_true_iff]; omega
  have t3 : decide (0 ≤ i) = true := by rw [decide_eq_true_iff]; omega
  have t4 : decide (i ≤ 100) = true := by rw [decide_eq_true_iff]; omega
  have t5 : decide (n ≤ 100 - i) = false := by rw [decide_eq_false_iff_not]; omega
  go_enter Try.func7, Try.ntmps7
  go_wp2_with fail
  refine (New_ok 100 _ (by omega) (by omega)).mono ?_
  rintro e w1 ⟨d, rfl, hd, hD1, hf1⟩
  rw [show (100 : Int).toNat = 100 from rfl] at hD1
  have HOp := Lib.hid (Open_bad i n hD1 i0 i1 (by rw [(DS.new_facts 100).1]; omega))
  have HF1 := Lib.hid hf1
  clear hD1 hf1
  go_wp2_with fail
  refine HOp.out.mono ?_
  rintro e w2 ⟨rfl, rfl⟩
  go_wp2_with fail
  refine (awake4_any _).mono ?_
  rintro e w3 ⟨rfl, hf3⟩
  have HF3 := Lib.hid (HF1.out.trans hf3)
  clear hf3
  go_wp2
  go_ret
  exact ⟨rfl, HF3.out⟩
set_option maxHeartbeats 800000 in
set_option maxRecDepth 100000 in
theorem Bounds_good (i n : Nat) (w : World) (g1 : 16 ≤ n) (g2 : n ≤ 100 - i) (g3 : i ≤ 100) :
    Calls Try.prog 7 #[.int .i64 i, .int .i64 n] w fun e w' => e = .returned (.bool true) ∧ Fr Nob w w' := by
  have t1 : decide ((16 : Int) ≤ (n : Int)) = true := by rw [decide_eq_true_iff]; omega
  have t2 : decide ((n : Int) ≤ 32768) = true := by rw [decide_eq_true_iff]; omega
  have t3 : decide ((0 : Int) ≤ (i : Int)) = true := by rw [decide_eq_true_iff]; omega
  have t4 : decide ((i : Int) ≤ 100) = true := by rw [decide_eq_true_iff]; omega
  have t5 : decide ((n : Int) ≤ 100 - (i : Int)) = true := by rw [decide_eq_true_iff]; omega
  go_enter Try.func7, Try.ntmps7
  go_wp2_with fail
  refine (New_ok 100 _ (by omega) (by omega)).mono ?_
  rintro e w1 ⟨d, rfl, hd, hD1, hf1⟩
  rw [show (100 : Int).toNat = 100 from rfl] at hD1
  have HOp := Lib.hid (Open_new i n hD1 g1 (by omega) (by omega))
  have HF1 := Lib.hid hf1
  clear hD1 hf1
  go_wp2_with fail
  refine HOp.out.mono ?_
  rintro e w2 ⟨p, rfl, hp, ⟨R, RD, hW, hR, hRD⟩, hf2⟩
  have HF2 : Hid (Fr Nob w w2) := Fr.step HF1.out hf2.fr (fun b hb h => by have := h.1; omega)
  have hl := hW.l
  have HSz := Lib.hid (Size_any hl)
  have HRo := Lib.hid (Room_any hl)
  have HFi := Lib.hid (First_any hl)
  have HNx := Lib.hid (Next_any hl)
  have HFl := Lib.hid (Flushed_any hl)
  rw [show (LS.empty i n).n = n from rfl] at HSz
  rw [show (LS.empty i n).room = 48 * ((n : Int) - 8) from rfl] at HRo
  rw [show (LS.empty i n).first = 1 from rfl] at HFi
  rw [show (LS.empty i n).next = 1 from rfl] at HNx
  rw [show (LS.empty i n).flushed = 0 from rfl] at HFl
  clear hf2 hW hR hRD hl
  go_wp2_with (first | (go_at_call 33; refine HSz.out.mono ?_; rintro e w' ⟨rfl, rfl⟩) | (go_at_call 34; refine HRo.out.mono ?_; rintro e w' ⟨rfl, rfl⟩) | (go_at_call 35; refine HFi.out.mono ?_; rintro e w' ⟨rfl, rfl⟩) | (go_at_call 36; refine HNx.out.mono ?_; rintro e w' ⟨rfl, rfl⟩) | (go_at_call 37; refine HFl.out.mono ?_; rintro e w' ⟨rfl, rfl⟩) | (go_at_call 32; refine (awake4_any _).mono ?_; rintro e w3 ⟨rfl, hf3⟩))
  go_ret
  exact ⟨rfl, HF2.out.trans hf3⟩

theorem Bounds_row (i n : Int) (w : World) (i0 : -9223372036854775808 ≤ i) (i1 : i ≤ 9223372036854775807) (n0 : -9223372036854775808 ≤ n) (n1 : n ≤ 9223372036854775807) :
    Calls Try.prog 7 #[.int .i64 i, .int .i64 n] w fun e w' => e = .returned (.bool true) ∧ Fr Nob w w' := by
  by_cases h1 : n < 16
  · exact Bounds_a i n w i0 i1 n0 n1 h1
  by_cases h2 : 32768 < n
  · exact Bounds_b i n w i0 i1 n0 n1 h2
  by_cases h3 : i < 0
  · exact Bounds_c i n w i0 i1 n0 n1 h3 (by omega) (by omega)
  by_cases h4 : 100 < i
  · exact Bounds_d i n w i0 i1 n0 n1 h4 (by omega) (by omega)
  by_cases h5 : 100 - i < n
  · exact Bounds_e i n w i0 i1 n0 n1 h5 (by omega) (by omega) (by omega) (by omega)
  obtain ⟨a, rfl⟩ := Int.eq_ofNat_of_zero_le (show 0 ≤ i by omega)
  obtain ⟨b, rfl⟩ := Int.eq_ofNat_of_zero_le (show 0 ≤ n by omega)
  exact Bounds_good a b w (by omega) (by omega) (by omega)
end Go.Proofs.Ytieiopeblleheaa
