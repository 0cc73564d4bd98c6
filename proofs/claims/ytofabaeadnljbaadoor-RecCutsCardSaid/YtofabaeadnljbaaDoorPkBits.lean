/-
  What Go's words on bits say of numbers as bytes.
-/
import Derived.Test.YtofabaeadnljbaaDoorBytes0
import Derived.Test.YtofabaeadnljbaaDoorPk1
namespace Go.Proofs.YtofabaeadnljbaaDoor
set_option linter.unusedSimpArgs false
set_option linter.unusedVariables false
open Go.RowKit

theorem wrap_u8' (x : Int) : IntKind.u8.wrap x = x % 256 := by
  simp [IntKind.wrap, IntKind.signed, IntKind.bits]
theorem and8_127 (c : Nat) (h : c < 256) : bits .and .u8 (c : Int) 127 = ((c % 128 : Nat) : Int) := by
  show IntKind.u8.wrap ((BitVec.ofInt 8 (c : Int) &&& BitVec.ofInt 8 127).toNat : Nat) = _
  have e1 : (BitVec.ofInt 8 (c : Int)).toNat = c := by rw [BitVec.toNat_ofInt]; omega
  have e2 : (BitVec.ofInt 8 127).toNat = 2 ^ 7 - 1 := by decide
  rw [BitVec.toNat_and, e1, e2, Nat.and_two_pow_sub_one_eq_mod, wrap_u8']
  omega
theorem or8_128 (x : Nat) : bits .or .u8 (((x % 256 : Nat)) : Int) 128 = ((x % 128 + 128 : Nat) : Int) := by
  show IntKind.u8.wrap ((BitVec.ofInt 8 ((x % 256 : Nat) : Int) ||| BitVec.ofInt 8 128).toNat : Nat) = _
  have e1 : (BitVec.ofInt 8 ((x % 256 : Nat) : Int)).toNat = x % 256 := by rw [BitVec.toNat_ofInt]; omega
  have e2 : (BitVec.ofInt 8 128).toNat = 128 := by decide
  rw [BitVec.toNat_or, e1, e2]
  have key : x % 256 ||| 128 = x % 128 + 128 := by
    have h1 : x % 256 = 128 * (x % 256 / 128) + x % 128 := by omega
    have h2 : x % 256 / 128 = 0 ∨ x % 256 / 128 = 1 := by omega
    have h3 : (128 : Nat) ||| x % 128 = 128 + x % 128 := by
      have := Nat.shiftLeft_add_eq_or_of_lt (b := x % 128) (i := 7) (by omega) 1
      rw [Nat.shiftLeft_eq] at this
      simpa using this.symm
    rcases h2 with h2 | h2
    · rw [h2, Nat.mul_zero, Nat.zero_add] at h1
      rw [h1, Nat.or_comm, h3]; omega
    · rw [h2, Nat.mul_one, ← h3] at h1
      rw [h1, Nat.or_comm, ← Nat.or_assoc, Nat.or_self, h3]; omega
  rw [key, wrap_u8']
  omega
theorem or_shl (x c i : Nat) (hx : x < 128 ^ i) (hi : i ≤ 9) (hc : c < 128) (hc9 : i = 9 → c ≤ 1) : bits .or .u64 (x : Int) (IntKind.u64.wrap ((c : Int) * 2 ^ (7 * i))) = ((x + c * 128 ^ i : Nat) : Int) := by
  have h128 : (2 : Nat) ^ (7 * i) = 128 ^ i := by rw [Nat.pow_mul]
  have hcast : ((c : Int) * 2 ^ (7 * i)) = ((c * 128 ^ i : Nat) : Int) := by rw [← h128]; simp
  have hle : c * 128 ^ i ≤ 18446744073709551616 - 128 ^ i ∧ 128 ^ i ≤ 9223372036854775808 := by
    by_cases e : i = 9
    · subst e
      have : 128 ^ 9 = 9223372036854775808 := by decide
      rw [this] at hx ⊢
      have := hc9 rfl
      omega
    · have h1 : c * 128 ^ i ≤ 127 * 128 ^ i := Nat.mul_le_mul_right _ (by omega)
      have h2 : 128 ^ i ≤ 128 ^ 8 := Nat.pow_le_pow_right (by omega) (by omega)
      have : 128 ^ 8 = 72057594037927936 := by decide
      omega
  have e1 : IntKind.u64.wrap ((c * 128 ^ i : Nat) : Int) = ((c * 128 ^ i : Nat) : Int) := by rw [wrap_u64']; omega
  rw [hcast, e1]
  show IntKind.u64.wrap ((BitVec.ofInt 64 (x : Int) ||| BitVec.ofInt 64 ((c * 128 ^ i : Nat) : Int)).toNat : Nat) = _
  have f1 : (BitVec.ofInt 64 (x : Int)).toNat = x := by rw [BitVec.toNat_ofInt]; omega
  have f2 : (BitVec.ofInt 64 ((c * 128 ^ i : Nat) : Int)).toNat = c * 128 ^ i := by rw [BitVec.toNat_ofInt]; omega
  rw [BitVec.toNat_or, f1, f2]
  have h3 : x ||| c * 128 ^ i = c * 128 ^ i + x := by
    have := Nat.shiftLeft_add_eq_or_of_lt (b := x) (i := 7 * i) (by rw [h128]; exact hx) c
    rw [Nat.shiftLeft_eq, h128] at this
    rw [Nat.or_comm]
    exact this.symm
  rw [h3, wrap_u64']
  omega
theorem or64_1 (v : Nat) (h : v < 9223372036854775808) : bits .or .u64 (((v * 2 : Nat)) : Int) 1 = ((v * 2 + 1 : Nat) : Int) := by
  show IntKind.u64.wrap ((BitVec.ofInt 64 ((v * 2 : Nat) : Int) ||| BitVec.ofInt 64 1).toNat : Nat) = _
  have e1 : (BitVec.ofInt 64 ((v * 2 : Nat) : Int)).toNat = v * 2 := by rw [BitVec.toNat_ofInt]; omega
  have e2 : (BitVec.ofInt 64 1).toNat = 1 := by decide
  rw [BitVec.toNat_or, e1, e2]
  have h3 : v * 2 ||| 1 = v * 2 + 1 := by
    have := Nat.shiftLeft_add_eq_or_of_lt (b := 1) (i := 1) (by omega) v
    rw [Nat.shiftLeft_eq] at this
    simpa using this.symm
  rw [h3, wrap_u64']
  omega
theorem and64_1 (w : Nat) (h : w < 18446744073709551616) : bits .and .u64 (w : Int) 1 = ((w % 2 : Nat) : Int) := by
  show IntKind.u64.wrap ((BitVec.ofInt 64 (w : Int) &&& BitVec.ofInt 64 1).toNat : Nat) = _
  have e1 : (BitVec.ofInt 64 (w : Int)).toNat = w := by rw [BitVec.toNat_ofInt]; omega
  have e2 : (BitVec.ofInt 64 1).toNat = 2 ^ 1 - 1 := by decide
  rw [BitVec.toNat_and, e1, e2, Nat.and_two_pow_sub_one_eq_mod, wrap_u64']
  omega
end Go.Proofs.YtofabaeadnljbaaDoor
