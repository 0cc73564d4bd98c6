/-
  The reference's numerals: Digits, num.
-/
import Derived.Test.YtidohbhcjnmmeaaDoorCmd0
import Derived.Lib.ItoaLen
namespace Go.Proofs.YtidohbhcjnmmeaaDoor
set_option linter.unusedSimpArgs false
set_option linter.unusedVariables false
open Go.RowKit

def tens : ByteArray := ⟨#[48, 49, 50, 51, 52, 53, 54, 55, 56, 57]⟩
theorem tens_at (k : Nat) (hk : k < 10) : tens.extract k (k + 1) = tx [UInt8.ofNat (48 + k)] := by
  apply bs_inj
  unfold bs
  rw [Lib.extract_data]
  have : k = 0 ∨ k = 1 ∨ k = 2 ∨ k = 3 ∨ k = 4 ∨ k = 5 ∨ k = 6 ∨ k = 7 ∨ k = 8 ∨ k = 9 := by omega
  rcases this with h | h | h | h | h | h | h | h | h | h <;> subst h <;> rfl
theorem dec_step (x : Nat) (h : ¬ x < 10) (r : List UInt8) : Lib.decDigits (x / 10) ++ (UInt8.ofNat (48 + x % 10) :: r) = Lib.decDigits x ++ r := by
  rw [Lib.decDigits.eq_1 x, dif_neg h]; simp

theorem tx_cons (a : UInt8) (l : List UInt8) : tx [a] ++ tx l = tx (a :: l) := by
  apply bs_inj
  unfold bs
  rw [Go.Joins.data_append]
  rfl
set_option maxHeartbeats 1600000 in
set_option maxRecDepth 100000 in
theorem Digits_nat (n : Nat) (hn : (n : Int) ≤ 9223372036854775807) (w : World) : Calls Tryd.prog 8 #[.int .i64 n] w fun e w' => e = .returned (.string (tx (Lib.decDigits n))) ∧ w' = w := by
  have hn0 : ¬ (n : Int) = -9223372036854775808 := by omega
  have hn1 : ¬ (n : Int) < 0 := by omega
  go_enter Tryd.func8, Tryd.ntmps8
  go_wp2
  go_loopw [0, 3] (fun a s wr => ∃ (x : Nat) (l : List UInt8), x ≤ n ∧ a = .int .i64 x ∧ s = .string (tx l) ∧ 2 * l.length + x ≤ n ∧ Hid (Lib.decDigits x ++ l = Lib.decDigits n) ∧ wr = w) (fun a _ _ => (intOf a).toNat)
  case atStart => exact ⟨n, [], Nat.le_refl _, rfl, rfl, by simp, by simp [Hid], rfl⟩
  case round =>
    obtain ⟨x, l, hx, rfl, rfl, hln, hd, rfl⟩ := hrel
    have hs2 : (tx l).size = l.length := rfl
    by_cases h9 : x < 10
    · have k9 : ¬ (9 : Int) < (x : Int) := by omega
      have he : (⟨#[48, 49, 50, 51, 52, 53, 54, 55, 56, 57]⟩ : ByteArray).extract x (x + 1) = tx [UInt8.ofNat (48 + x)] := tens_at x h9
      have HD : Hid (tx (UInt8.ofNat (48 + x) :: l) = tx (Lib.decDigits n)) := by
        rw [← hd.out, Lib.decDigits.eq_1 x, dif_pos h9]; rfl
      obtain ⟨dg, hdg⟩ : ∃ d, UInt8.ofNat (48 + x) = d := ⟨_, rfl⟩
      rw [hdg] at he HD
      clear hdg
      have hs1 : (tx [dg]).size = 1 := rfl
      have ht := tx_cons dg l
      go_wp2
      rw [HD.out]
      go_ret
      exact ⟨rfl, rfl⟩
    · have k9 : (9 : Int) < (x : Int) := by omega
      have km : (x : Int).tmod 10 = ((x % 10 : Nat) : Int) := by rw [Int.tmod_eq_emod_of_nonneg (by omega)]; omega
      have kq : (x : Int).tdiv 10 = ((x / 10 : Nat) : Int) := by rw [Int.tdiv_eq_ediv_of_nonneg (by omega)]; omega
      have he : (⟨#[48, 49, 50, 51, 52, 53, 54, 55, 56, 57]⟩ : ByteArray).extract (x % 10) (x % 10 + 1) = tx [UInt8.ofNat (48 + x % 10)] := tens_at _ (by omega)
      have HD : Hid (Lib.decDigits (x / 10) ++ (UInt8.ofNat (48 + x % 10) :: l) = Lib.decDigits n) := by rw [← hd.out]; exact dec_step x h9 l
      obtain ⟨dg, hdg⟩ : ∃ d, UInt8.ofNat (48 + x % 10) = d := ⟨_, rfl⟩
      rw [hdg] at he HD
      clear hdg
      have hs1 : (tx [dg]).size = 1 := rfl
      have ht := tx_cons dg l
      go_wp2
      · refine ⟨⟨x / 10, _, by omega, by simp, rfl, by rw [List.length_cons]; omega, HD.out, trivial⟩, ?_⟩
        simp [intOf]; omega

theorem itoa_min : Lib.itoa (-9223372036854775808) = [45, 57, 50, 50, 51, 51, 55, 50, 48, 51, 54, 56, 53, 52, 55, 55, 53, 56, 48, 56] := by
  simp [Lib.itoa, Lib.decDigits]
set_option maxHeartbeats 1600000 in
set_option maxRecDepth 100000 in
theorem Digits_any (n : Int) (h0 : -9223372036854775808 ≤ n) (h1 : n ≤ 9223372036854775807) (w : World) : Calls Tryd.prog 8 #[.int .i64 n] w fun e w' => e = .returned (.string (tx (Lib.itoa n))) ∧ w' = w := by
  by_cases hn : 0 ≤ n
  · obtain ⟨k, rfl⟩ : ∃ k : Nat, n = k := ⟨n.toNat, by omega⟩
    have := Digits_nat k h1 w
    have e : Lib.itoa (k : Int) = Lib.decDigits k := by unfold Lib.itoa; rw [if_neg (by omega)]; rfl
    rw [e]
    exact this
  · by_cases hm : n = -9223372036854775808
    · subst hm
      rw [itoa_min]
      go_enter Tryd.func8, Tryd.ntmps8
      go_wp2
      go_ret
      exact ⟨rfl, rfl⟩
    · obtain ⟨k, rfl⟩ : ∃ k : Nat, n = -(k : Int) := ⟨(-n).toNat, by omega⟩
      have e : tx (Lib.itoa (-(k : Int))) = tx [45] ++ tx (Lib.decDigits k) := by
        rw [tx_cons]; unfold Lib.itoa; rw [if_pos (by omega), Int.natAbs_neg]; rfl
      rw [e]
      have HC := Lib.hid (Digits_nat k (by omega) w)
      obtain ⟨D, hD⟩ : ∃ D, Lib.decDigits k = D := ⟨_, rfl⟩
      have hl : D.length ≤ 1000 := by rw [← hD, Lib.decDigits_length]; have := Lib.nDigits_le20 k (by omega); omega
      have hs : (tx D).size = D.length := rfl
      have hs1 : (tx [45]).size = 1 := rfl
      rw [hD] at HC ⊢
      clear hD
      have hk1 : ¬ -(k : Int) = -9223372036854775808 := hm
      have hk2 : -(k : Int) < 0 := by omega
      have hk3 : IntKind.i64.wrap (- -(k : Int)) = k := by rw [IntKind.wrap_i64]; omega
      go_enter Tryd.func8, Tryd.ntmps8
      go_wp2_with fail
      refine HC.out.mono ?_
      rintro e w1 ⟨rfl, rfl⟩
      go_wp2
      go_ret
      exact ⟨rfl, rfl⟩

theorem num_any (n : Int) (h0 : -9223372036854775808 ≤ n) (h1 : n ≤ 9223372036854775807) (w : World) : Calls Tryd.prog 35 #[.int .i64 n] w fun e w' => e = .returned (.string (tx (Lib.itoa n))) ∧ w' = w := by
  have HC := Lib.hid (Digits_any n h0 h1 w)
  go_enter Tryd.func35, Tryd.ntmps35
  go_wp2_with fail
  refine HC.out.mono ?_
  rintro e w1 ⟨rfl, rfl⟩
  go_wp2
  go_ret
  exact ⟨rfl, rfl⟩
end Go.Proofs.YtidohbhcjnmmeaaDoor
