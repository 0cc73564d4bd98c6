/-
  Numbers as bytes (plain): what Uvar, Var, Int, IntOf compute, and that what was written is read again.
-/
import Derived.Test.YtofabaeadnljbaaDoorBase
namespace Go.Proofs.YtofabaeadnljbaaDoor
set_option linter.unusedSimpArgs false
set_option linter.unusedVariables false
open Go.RowKit

def uvar (x : Nat) : List UInt8 := if x < 128 then [UInt8.ofNat x] else UInt8.ofNat (x % 128 + 128) :: uvar (x / 128)
termination_by x
decreasing_by omega

theorem uvar_small {x : Nat} (h : x < 128) : uvar x = [UInt8.ofNat x] := by rw [uvar, if_pos h]
theorem uvar_big {x : Nat} (h : 128 ≤ x) : uvar x = UInt8.ofNat (x % 128 + 128) :: uvar (x / 128) := by rw [uvar, if_neg (by omega)]
theorem uvar_pos (x : Nat) : 0 < (uvar x).length := by
  by_cases h : x < 128
  · rw [uvar_small h]; simp
  · rw [uvar_big (by omega)]; simp
theorem uvar_len : ∀ (k x : Nat), x < 128 ^ (k + 1) → (uvar x).length ≤ k + 1
  | 0, x, h => by rw [uvar_small (by simpa using h)]; simp
  | k + 1, x, h => by
    by_cases hx : x < 128
    · rw [uvar_small hx]; simp
    · rw [uvar_big (by omega)]
      have := uvar_len k (x / 128) (by rw [Nat.pow_succ] at h; exact Nat.div_lt_of_lt_mul (by rw [Nat.mul_comm]; exact h))
      simp only [List.length_cons]
      omega
theorem uvar_le (x : Nat) (h : x < 18446744073709551616) : (uvar x).length ≤ 10 := by
  have e : 128 ^ (9 + 1) = 1180591620717411303424 := by decide
  exact uvar_len 9 x (by rw [e]; omega)

/-- Var, from place i on, x so far, at most k bytes more. -/
def varF (b : List UInt8) : Nat → Nat → Nat → Nat × Nat × Nat
  | _, _, 0 => (0, 0, 5)
  | i, x, k + 1 => match b[i]? with
    | none => (0, 0, 4)
    | some c => if i = 9 ∧ 1 < c.toNat then (0, 0, 5)
      else if 128 ≤ c.toNat then varF b (i + 1) (x + c.toNat % 128 * 128 ^ i) k
      else if c.toNat = 0 ∧ 0 < i then (0, 0, 3)
      else (x + c.toNat * 128 ^ i, i + 1, 0)
def varB (b : List UInt8) : Nat × Nat × Nat := varF b 0 0 10

def intB (x : Int) : List UInt8 := if x < 0 then uvar ((-(x + 1)).toNat * 2 + 1) else uvar (x.toNat * 2)
def intV (w : Nat) : Int := if w % 2 = 1 then -((w / 2 : Nat) : Int) - 1 else ((w / 2 : Nat) : Int)
def intOfB (b : List UInt8) : Int × Nat × Nat := if (varB b).2.2 = 0 then (intV (varB b).1, (varB b).2.1, 0) else (0, 0, (varB b).2.2)

theorem ofNat_toNat {n : Nat} (h : n < 256) : (UInt8.ofNat n).toNat = n := by
  rw [UInt8.toNat_ofNat']; omega

theorem varF_uvar : ∀ (x i acc k : Nat) (pre rest : List UInt8), pre.length = i → x * 128 ^ i < 18446744073709551616 → (0 < i → 0 < x) → i ≤ 9 → 10 ≤ i + k →
    varF (pre ++ uvar x ++ rest) i acc k = (acc + x * 128 ^ i, i + (uvar x).length, 0) := by
  intro x
  induction x using Nat.strongRecOn with
  | _ x ih =>
    intro i acc k pre rest hp hx h0 hi hk
    obtain ⟨k, rfl⟩ : ∃ k', k = k' + 1 := ⟨k - 1, by omega⟩
    have h9 : i = 9 → x ≤ 1 := by
      rintro rfl
      have : 128 ^ 9 = 9223372036854775808 := by decide
      rw [this] at hx
      omega
    by_cases hs : x < 128
    · have hg : (pre ++ uvar x ++ rest)[i]? = some (UInt8.ofNat x) := by
        rw [uvar_small hs, List.append_assoc, List.getElem?_append_right (by omega), hp]; simp
      rw [varF, hg]
      dsimp only
      rw [ofNat_toNat (by omega), if_neg (by rintro ⟨h, h'⟩; have := h9 h; omega), if_neg (by omega), if_neg (by rintro ⟨h, h'⟩; have := h0 h'; omega), uvar_small hs]
      rfl
    · have hg : (pre ++ uvar x ++ rest)[i]? = some (UInt8.ofNat (x % 128 + 128)) := by
        rw [uvar_big (by omega), List.append_assoc, List.getElem?_append_right (by omega), hp]; simp
      have hi9 : i ≠ 9 := fun h => by have := h9 h; omega
      rw [varF, hg]
      dsimp only
      rw [ofNat_toNat (by omega), if_neg (by rintro ⟨h, _⟩; exact hi9 h), if_pos (by omega)]
      have hl : pre ++ uvar x ++ rest = (pre ++ [UInt8.ofNat (x % 128 + 128)]) ++ uvar (x / 128) ++ rest := by
        rw [uvar_big (by omega)]; simp
      have hpow : 128 ^ (i + 1) = 128 ^ i * 128 := Nat.pow_succ ..
      have hmul : x / 128 * 128 ^ (i + 1) = (x / 128 * 128) * 128 ^ i := by rw [hpow, Nat.mul_comm (128 ^ i) 128, Nat.mul_assoc]
      have hsum : x * 128 ^ i = (x / 128 * 128) * 128 ^ i + x % 128 * 128 ^ i := by rw [← Nat.add_mul]; congr 1; omega
      rw [hl, ih (x / 128) (by omega) (i + 1) _ k _ rest (by simp [hp]) (by rw [hmul]; omega) (fun _ => by omega) (by omega) (by omega)]
      rw [show (x % 128 + 128) % 128 = x % 128 from by omega, hmul, uvar_big (show 128 ≤ x by omega), List.length_cons]
      refine Prod.ext ?_ (Prod.ext ?_ rfl)
      · show acc + x % 128 * 128 ^ i + x / 128 * 128 * 128 ^ i = acc + x * 128 ^ i
        omega
      · show i + 1 + (uvar (x / 128)).length = i + ((uvar (x / 128)).length + 1)
        omega
theorem varB_uvar (x : Nat) (rest : List UInt8) (h : x < 18446744073709551616) : varB (uvar x ++ rest) = (x, (uvar x).length, 0) := by
  have := varF_uvar x 0 0 10 [] rest rfl (by simpa using h) (fun h => absurd h (by omega)) (by omega) (by omega)
  simpa [varB] using this
theorem intOfB_intB (x : Int) (rest : List UInt8) (h0 : -9223372036854775808 ≤ x) (h1 : x ≤ 9223372036854775807) : intOfB (intB x ++ rest) = (x, (intB x).length, 0) := by
  unfold intB intOfB
  by_cases hx : x < 0
  · rw [if_pos hx, varB_uvar _ _ (by omega)]
    simp only [if_true]
    refine Prod.ext ?_ rfl
    show intV _ = x
    unfold intV
    rw [if_pos (by omega)]
    omega
  · rw [if_neg hx, varB_uvar _ _ (by omega)]
    simp only [if_true]
    refine Prod.ext ?_ rfl
    show intV _ = x
    unfold intV
    rw [if_neg (by omega)]
    omega
theorem intB_length (x : Int) (h0 : -9223372036854775808 ≤ x) (h1 : x ≤ 9223372036854775807) : 0 < (intB x).length ∧ (intB x).length ≤ 10 := by
  unfold intB
  split
  · exact ⟨uvar_pos _, uvar_le _ (by omega)⟩
  · exact ⟨uvar_pos _, uvar_le _ (by omega)⟩

/-- What varF tells lies within its bounds. -/
theorem varF_spec (b : List UInt8) : ∀ (k i x : Nat), i + k = 10 → i ≤ b.length → x < 128 ^ i → (varF b i x k).1 < 18446744073709551616 ∧ (varF b i x k).2.1 ≤ b.length ∧ (varF b i x k).2.2 ≤ 5 ∧ ((varF b i x k).2.2 ≠ 0 → (varF b i x k).1 = 0 ∧ (varF b i x k).2.1 = 0)
  | 0, _, _, _, _, _ => ⟨by simp [varF], by simp [varF], by simp [varF], fun _ => ⟨rfl, rfl⟩⟩
  | k + 1, i, x, hk, hi, hx => by
    rw [varF]
    cases hb : b[i]? with
    | none => exact ⟨by simp, by simp, by simp, fun _ => ⟨rfl, rfl⟩⟩
    | some c =>
      have hlt := (List.getElem?_eq_some_iff.1 hb).1
      dsimp only
      split
      · exact ⟨by simp, by simp, by simp, fun _ => ⟨rfl, rfl⟩⟩
      · rename_i h9
        have hc := UInt8.toNat_lt c
        have hpow : 128 ^ (i + 1) = 128 ^ i * 128 := Nat.pow_succ ..
        split
        · refine varF_spec b k (i + 1) _ (by omega) (by omega) ?_
          have h1 : c.toNat % 128 * 128 ^ i ≤ 127 * 128 ^ i := Nat.mul_le_mul_right _ (by omega)
          omega
        · rename_i h128
          split
          · exact ⟨by simp, by simp, by simp, fun _ => ⟨rfl, rfl⟩⟩
          · refine ⟨?_, by show i + 1 ≤ _; omega, by simp, fun h => absurd rfl h⟩
            show x + c.toNat * 128 ^ i < _
            have hi9 : i ≤ 9 := by omega
            by_cases e : i = 9
            · subst e
              have : 128 ^ 9 = 9223372036854775808 := by decide
              rw [this] at hx ⊢
              have : c.toNat ≤ 1 := by
                rcases Nat.lt_or_ge 1 c.toNat with h | h
                · exact absurd ⟨rfl, h⟩ h9
                · exact h
              omega
            · have h1 : c.toNat * 128 ^ i ≤ 127 * 128 ^ i := Nat.mul_le_mul_right _ (by omega)
              have h2 : 128 ^ i ≤ 128 ^ 8 := Nat.pow_le_pow_right (by omega) (by omega)
              have : 128 ^ 8 = 72057594037927936 := by decide
              omega
theorem varB_spec (b : List UInt8) : (varB b).1 < 18446744073709551616 ∧ (varB b).2.1 ≤ b.length ∧ (varB b).2.2 ≤ 5 ∧ ((varB b).2.2 ≠ 0 → (varB b).1 = 0 ∧ (varB b).2.1 = 0) :=
  varF_spec b 10 0 0 (by omega) (by omega) (by decide)
end Go.Proofs.YtofabaeadnljbaaDoor
