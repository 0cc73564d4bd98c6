/-
  A numeral's digits (plain): decDigits of the value of digits is the digits.
-/
import Derived.Test.YtidohbhcjnmmeaaDoorCmd0
namespace Go.Proofs.YtidohbhcjnmmeaaDoor
set_option linter.unusedSimpArgs false
set_option linter.unusedVariables false

def digVal (d : List UInt8) : Nat := d.foldl (fun a c => 10 * a + (c.toNat - 48)) 0
def isDig (c : UInt8) : Prop := 48 ≤ c.toNat ∧ c.toNat ≤ 57
theorem digVal_snoc (d : List UInt8) (c : UInt8) : digVal (d ++ [c]) = 10 * digVal d + (c.toNat - 48) := by simp [digVal]
theorem foldl_ge (d : List UInt8) : ∀ a, a ≤ d.foldl (fun a c => 10 * a + (c.toNat - 48)) a := by
  induction d with
  | nil => intro a; exact Nat.le_refl _
  | cons c r ih => intro a; exact Nat.le_trans (by omega) (ih (10 * a + (c.toNat - 48)))
theorem digVal_pos (c : UInt8) (r : List UInt8) (h : isDig c) (h0 : c.toNat ≠ 48) : 1 ≤ digVal (c :: r) := by
  unfold digVal
  exact Nat.le_trans (by have := h.1; omega) (foldl_ge r (10 * 0 + (c.toNat - 48)))
theorem dig_of (c : UInt8) (h : isDig c) : UInt8.ofNat (48 + (c.toNat - 48)) = c := by
  have := h.1
  rw [show 48 + (c.toNat - 48) = c.toNat by omega]
  exact UInt8.ofNat_toNat
theorem dec_val : ∀ (n : Nat) (d : List UInt8), d.length = n → (∀ c ∈ d, isDig c) → (∃ c r, d = c :: r ∧ (c.toNat ≠ 48 ∨ r = [])) → Lib.decDigits (digVal d) = d := by
  intro n
  induction n with
  | zero => intro d hl _ ⟨c, r, e, _⟩; subst e; simp at hl
  | succ n ih =>
    intro d hl hd ⟨c, r, e, hc⟩
    rcases List.eq_nil_or_concat d with h | ⟨d', x, h⟩
    · subst h; cases e
    · rw [List.concat_eq_append] at h
      rw [h]
      rw [h] at hl hd
      have hx : isDig x := hd x (by simp)
      rw [digVal_snoc]
      cases d' with
      | nil =>
        rw [Lib.decDigits.eq_1, dif_pos (by have := hx.2; simp [digVal]; omega)]
        simp only [digVal, List.foldl_nil, Nat.mul_zero, Nat.zero_add, List.nil_append]
        rw [dig_of x hx]
      | cons y s =>
        have hy : y = c := by rw [h] at e; simp at e; exact e.1
        subst hy
        have hne : y.toNat ≠ 48 := by
          rcases hc with h1 | h1
          · exact h1
          · rw [h, h1] at e; simp at e
        have hyd : isDig y := hd y (by simp)
        have hp := digVal_pos y s hyd hne
        have hx2 := hx.2
        have hx1 := hx.1
        rw [Lib.decDigits.eq_1, dif_neg (by omega), show (10 * digVal (y :: s) + (x.toNat - 48)) / 10 = digVal (y :: s) by omega, show (10 * digVal (y :: s) + (x.toNat - 48)) % 10 = x.toNat - 48 by omega, dig_of x hx]
        rw [ih (y :: s) (by simp at hl ⊢; omega) (fun c hc => hd c (by simp at hc ⊢; rcases hc with h | h; exact .inl h; exact .inr (.inl h))) ⟨y, s, rfl, .inl hne⟩]
instance (c : UInt8) : Decidable (isDig c) := by unfold isDig; infer_instance
/-- The end of a word that is no number. -/
def noNat : Lib.NumEnd Nat := Lib.parseUintM 0 0 [0]
def noInt : Lib.NumEnd Int := Lib.parseIntB 64 []
theorem noNat_ok {v : Nat} : noNat ≠ .ok v := by intro h; cases h
theorem puM (M : Nat) (hM : 9999999999 ≤ M) : ∀ (d : List UInt8) (acc k : Nat), acc < 10 ^ k → d.length + k ≤ 10 →
    Lib.parseUintM M acc d = if ∀ c ∈ d, isDig c then .ok (d.foldl (fun a c => 10 * a + (c.toNat - 48)) acc) else noNat
  | [], acc, k, _, _ => by simp [Lib.parseUintM]
  | c :: r, acc, k, ha, hk => by
    have hp : 10 ^ (k + 1) ≤ 10 ^ 10 := Nat.pow_le_pow_right (by decide) (by simp at hk; omega)
    have e10 : 10 ^ (k + 1) = 10 * 10 ^ k := by rw [Nat.pow_succ]; omega
    have e2 : (10 : Nat) ^ 10 = 10000000000 := by decide
    unfold Lib.parseUintM
    by_cases hc : isDig c
    · have h1 := hc.1
      have h2 := hc.2
      rw [if_pos ⟨h1, h2⟩, if_neg (by omega), if_neg (by omega), show acc * 10 + (c.toNat - 48) = 10 * acc + (c.toNat - 48) by omega]
      rw [puM M hM r (10 * acc + (c.toNat - 48)) (k + 1) (by omega) (by simp at hk ⊢; omega)]
      simp [hc]
    · rw [if_neg (show ¬ (48 ≤ c.toNat ∧ c.toNat ≤ 57) from hc), if_neg (fun h => hc (h c (by simp)))]; rfl
/-- The reference's number of a word. -/
def magOf (w : List UInt8) : List UInt8 := if w.head? = some 45 then w.tail else w
def refNum (w : List UInt8) : Option Int :=
  if magOf w = [] ∨ 9 < (magOf w).length ∨ ((magOf w).head? = some 48 ∧ w ≠ [48]) ∨ ¬ (∀ c ∈ magOf w, isDig c) then none
  else some (if (magOf w).length < w.length then -(digVal (magOf w) : Int) else digVal (magOf w))
theorem trim_mag (w : List UInt8) : Lib.trimPrefix w [45] = magOf w := by
  cases w with
  | nil => rfl
  | cons c r =>
    unfold Lib.trimPrefix Lib.hasPrefix magOf
    by_cases h : c = 45
    · subst h; simp
    · simp [h, Ne.symm h]
theorem digVal_lt (d : List UInt8) (hd : ∀ c ∈ d, isDig c) : digVal d < 10 ^ d.length := by
  have : ∀ (n : Nat) (d : List UInt8), d.length = n → (∀ c ∈ d, isDig c) → digVal d < 10 ^ n := by
    intro n
    induction n with
    | zero => intro d h _; rw [List.eq_nil_of_length_eq_zero h]; simp [digVal]
    | succ n ih =>
      intro d h hd
      rcases List.eq_nil_or_concat d with e | ⟨d', x, e⟩
      · subst e; simp at h
      · rw [List.concat_eq_append] at e
        subst e
        have h1 := ih d' (by simp at h; omega) (fun c hc => hd c (by simp [hc]))
        have h2 := (hd x (by simp)).2
        rw [digVal_snoc, Nat.pow_succ]
        omega
  exact this _ d rfl hd
/-- ParseUint of up to nine bytes. -/
theorem pu64 (d : List UInt8) (hl : d.length ≤ 9) (hne : d ≠ []) : Lib.parseUintB 64 d = if ∀ c ∈ d, isDig c then .ok (digVal d) else noNat := by
  unfold Lib.parseUintB
  rw [if_neg hne, puM _ (by decide) d 0 1 (by decide) (by omega)]
  rfl
theorem toNat_dig (k : Nat) (h : k < 10) : (UInt8.ofNat (48 + k)).toNat = 48 + k := by
  simp [UInt8.toNat_ofNat']; omega
theorem dec_head : ∀ (u : Nat), ∃ c r, Lib.decDigits u = c :: r ∧ isDig c ∧ (u ≠ 0 → c.toNat ≠ 48) := by
  intro u
  induction u using Nat.strongRecOn with
  | ind u ih =>
    rw [Lib.decDigits.eq_1]
    split
    · rename_i h
      have := toNat_dig u h
      exact ⟨_, [], rfl, ⟨by omega, by omega⟩, fun h0 => by omega⟩
    · rename_i h
      obtain ⟨c, r, e, hd, h0⟩ := ih (u / 10) (by omega)
      rw [e]
      exact ⟨c, _, rfl, hd, fun _ => h0 (by omega)⟩
theorem itoa_nat (u : Nat) : Lib.itoa (u : Int) = Lib.decDigits u := by unfold Lib.itoa; rw [if_neg (by omega)]; rfl
theorem itoa_neg (u : Nat) (h : u ≠ 0) : Lib.itoa (-(u : Int)) = 45 :: Lib.decDigits u := by unfold Lib.itoa; rw [if_pos (by omega), Int.natAbs_neg]; rfl
theorem itoa_plus (v : Int) (r : List UInt8) : Lib.itoa v ≠ 43 :: r := by
  intro e
  unfold Lib.itoa at e
  split at e
  · injection e with e _; exact absurd e (by decide)
  · obtain ⟨c, r', e', hd, _⟩ := dec_head v.toNat
    rw [e'] at e
    injection e with e _
    subst e
    exact absurd hd (by decide)
theorem parse_neg (r : List UInt8) : Lib.parseIntB 64 (45 :: r) = match Lib.parseUintB 64 r with | .range => .range | .ok u => if 9223372036854775808 < u then .range else .ok (-(u : Int)) | _ => noInt := by
  unfold Lib.parseIntB
  simp
  cases Lib.parseUintB 64 r <;> rfl
theorem parse_pos (c : UInt8) (r : List UInt8) (h1 : c.toNat ≠ 43) (h2 : c.toNat ≠ 45) : Lib.parseIntB 64 (c :: r) = match Lib.parseUintB 64 (c :: r) with | .range => .range | .ok u => if 9223372036854775808 ≤ u then .range else .ok (u : Int) | _ => noInt := by
  unfold Lib.parseIntB
  simp only [h1, h2, or_self, if_false, not_false_eq_true, true_and, false_and]
  cases Lib.parseUintB 64 (c :: r) <;> rfl
theorem pow9 {n : Nat} (h : n ≤ 9) : 10 ^ n ≤ 1000000000 := Nat.pow_le_pow_right (by decide) h

/-- The code's Number is the reference's. -/
theorem numC_eq (w : List UInt8) : numC w = refNum w := by
  unfold numC refNum
  rw [trim_mag]
  cases w with
  | nil => simp [magOf, Lib.parseIntB]
  | cons c r =>
    by_cases hm : 9 < (magOf (c :: r)).length
    · rw [if_pos hm, if_pos (.inr (.inl hm))]
    · rw [if_neg hm]
      by_cases h45 : c = 45
      · subst h45
        have em : magOf (45 :: r) = r := by simp [magOf]
        rw [em] at hm ⊢
        rw [parse_neg]
        by_cases hr : r = []
        · subst hr; simp [Lib.parseUintB]; rfl
        · rw [pu64 r (by omega) hr]
          by_cases hd : ∀ c ∈ r, isDig c
          · rw [if_pos hd]
            have hlt := digVal_lt r hd
            have hp := pow9 (show r.length ≤ 9 by omega)
            simp only
            rw [if_neg (by omega)]
            simp only
            obtain ⟨x, s, rfl⟩ : ∃ x s, r = x :: s := by cases r with | nil => exact absurd rfl hr | cons x s => exact ⟨x, s, rfl⟩
            by_cases h48 : x = 48
            · have hne : ¬ Lib.itoa (-(digVal (x :: s) : Int)) = 45 :: x :: s := by
                intro e
                by_cases h0 : digVal (x :: s) = 0
                · rw [h0] at e; simp [Lib.itoa, Lib.decDigits] at e
                · rw [itoa_neg _ h0] at e
                  injection e with _ e
                  obtain ⟨c, r', e', _, hc⟩ := dec_head (digVal (x :: s))
                  rw [e'] at e
                  injection e with e _
                  exact hc h0 (by rw [e, h48]; rfl)
              rw [if_neg hne, if_pos (.inr (.inr (.inl ⟨by simp [h48], by simp⟩)))]
            · have hx : x.toNat ≠ 48 := fun h => h48 (UInt8.toNat_inj.1 (by rw [h]; rfl))
              have hpos := digVal_pos x s (hd x (by simp)) hx
              have hdv := dec_val _ (x :: s) rfl hd ⟨x, s, rfl, .inl hx⟩
              rw [if_pos (by rw [itoa_neg _ (by omega), hdv]), if_neg, if_pos (by simp)]
              rintro (h | h | h | h)
              · cases h
              · omega
              · exact h48 (by simpa using h.1)
              · exact h hd
          · rw [if_neg hd, if_pos (.inr (.inr (.inr hd)))]; rfl
      · have em : magOf (c :: r) = c :: r := by simp [magOf, h45]
        rw [em] at hm ⊢
        have hc45 : c.toNat ≠ 45 := fun h => h45 (UInt8.toNat_inj.1 (by rw [h]; rfl))
        by_cases h43 : c = 43
        · rw [if_pos (.inr (.inr (.inr (fun h => absurd (h c (by simp)) (by rw [h43]; decide)))))]
          split
          · rename_i v hv
            rw [if_neg (by rw [h43]; exact itoa_plus v r)]
          · rfl
        · have hc43 : c.toNat ≠ 43 := fun h => h43 (UInt8.toNat_inj.1 (by rw [h]; rfl))
          rw [parse_pos c r hc43 hc45, pu64 (c :: r) (by omega) (by simp)]
          by_cases hd : ∀ x ∈ c :: r, isDig x
          · rw [if_pos hd]
            have hlt := digVal_lt (c :: r) hd
            have hp := pow9 (show (c :: r).length ≤ 9 by omega)
            simp only
            rw [if_neg (by omega)]
            simp only
            rw [itoa_nat]
            by_cases h48 : c = 48 ∧ c :: r ≠ [48]
            · have hne : ¬ Lib.decDigits (digVal (c :: r)) = c :: r := by
                intro e
                by_cases h0 : digVal (c :: r) = 0
                · rw [h0] at e
                  exact h48.2 (by rw [← e]; simp [Lib.decDigits])
                · obtain ⟨x, r', e', _, hc⟩ := dec_head (digVal (c :: r))
                  rw [e'] at e
                  injection e with e _
                  exact hc h0 (by rw [e, h48.1]; rfl)
              rw [if_neg hne, if_pos (.inr (.inr (.inl ⟨by simp [h48.1], h48.2⟩)))]
            · have hor : c.toNat ≠ 48 ∨ r = [] := by
                by_cases h : c = 48
                · right
                  by_cases hr : r = []
                  · exact hr
                  · exact absurd ⟨h, by rw [h]; simp [hr]⟩ h48
                · left; exact fun h' => h (UInt8.toNat_inj.1 (by rw [h']; rfl))
              have hdv := dec_val _ (c :: r) rfl hd ⟨c, r, rfl, hor⟩
              rw [if_pos hdv, if_neg, if_neg (by omega)]
              rintro (h | h | h | h)
              · cases h
              · omega
              · exact h48 ⟨by simpa using h.1, h.2⟩
              · exact h hd
          · rw [if_neg hd, if_pos (.inr (.inr (.inr hd)))]; rfl
end Go.Proofs.YtidohbhcjnmmeaaDoor
