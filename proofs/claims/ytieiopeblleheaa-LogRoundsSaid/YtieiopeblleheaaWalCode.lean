/-
  What sectors and records tell when they are read again (plain).
-/
import Derived.Test.YtieiopeblleheaaWalNew
namespace Go.Proofs.Ytieiopeblleheaa
set_option linter.unusedSimpArgs false
set_option linter.unusedVariables false
open Go.RowKit

theorem putB_snoc (n x : Nat) : putB (n + 1) x = putB n (x / 256) ++ [UInt8.ofNat (x % 256)] := by
  apply List.ext_getElem?
  intro j
  by_cases h : j < n
  · rw [putB_get _ _ _ (by omega), List.getElem?_append_left (by rw [putB_length]; exact h), putB_get _ _ _ h]
    rw [Nat.div_div_eq_div_mul, ← Nat.pow_succ', show n + 1 - 1 - j = (n - 1 - j).succ from by omega]
  · by_cases e : j = n
    · subst e
      rw [putB_get _ _ _ (by omega), List.getElem?_append_right (by rw [putB_length]; omega), putB_length]
      simp
    · rw [List.getElem?_eq_none (by rw [putB_length]; omega), List.getElem?_eq_none (by rw [List.length_append, putB_length]; simp; omega)]
theorem getN_putB : ∀ (n x : Nat), n ≤ 8 → getN (putB n x) = x % 256 ^ n
  | 0, x, _ => by simp [putB, getN, Nat.mod_one]
  | n + 1, x, h => by
    rw [putB_snoc, getN_snoc, getN_putB n _ (by omega), UInt8.toNat_ofNat']
    have h1 : 256 ^ (n + 1) = 256 ^ n * 256 := Nat.pow_succ ..
    have h2 : 256 ^ (n + 1) ≤ 256 ^ 8 := Nat.pow_le_pow_right (by omega) h
    have h3 : 256 ^ 8 = 18446744073709551616 := by decide
    have h4 : x % 256 ^ (n + 1) = x / 256 % 256 ^ n * 256 + x % 256 := by
      rw [Nat.pow_succ', Nat.mod_mul, Nat.add_comm, Nat.mul_comm]
    have h5 := Nat.mod_lt x (show 0 < 256 ^ (n + 1) from Nat.pow_pos (by omega))
    rw [h4] at h5 ⊢
    omega

section
variable {α : Type}
/-- A part that lies apart from what was spliced in. -/
theorem splice_apart (L cs : List α) (o p n : Nat) (h : o + cs.length ≤ L.length) (ha : p + n ≤ o ∨ o + cs.length ≤ p) : ((splice L o cs).drop p).take n = (L.drop p).take n := by
  apply List.ext_getElem?
  intro j
  rw [List.getElem?_take, List.getElem?_take]
  split
  · rw [List.getElem?_drop, List.getElem?_drop, splice_get _ _ _ _ h]
    rcases ha with ha | ha
    · rw [if_pos (by omega)]
    · rw [if_neg (by omega), if_neg (by omega)]
  · rfl
theorem splice_self (L cs : List α) (o : Nat) (h : o + cs.length ≤ L.length) : ((splice L o cs).drop o).take cs.length = cs := by
  apply List.ext_getElem?
  intro j
  rw [List.getElem?_take]
  split
  · rw [List.getElem?_drop, splice_get _ _ _ _ h, if_neg (by omega), if_pos (by omega)]
    congr 1; omega
  · rw [List.getElem?_eq_none (by omega)]
theorem splice_at (L cs : List α) (o i : Nat) (h : o + cs.length ≤ L.length) (ha : i < o ∨ o + cs.length ≤ i) : (splice L o cs)[i]? = L[i]? := by
  rw [splice_get _ _ _ _ h]
  rcases ha with ha | ha
  · rw [if_pos ha]
  · rw [if_neg (by omega), if_neg (by omega)]
theorem set_apart (L : List α) (i p n : Nat) (v : α) (h : i < p ∨ p + n ≤ i) : ((L.set i v).drop p).take n = (L.drop p).take n := by
  apply List.ext_getElem?
  intro j
  rw [List.getElem?_take, List.getElem?_take]
  split
  · rw [List.getElem?_drop, List.getElem?_drop, List.getElem?_set_ne (by omega)]
  · rfl
end

section
variable (no life : Nat) (b : List UInt8)
theorem sectB_no (hb : b.length ≤ 48) (h : no < 1099511627776) : pNo (sectB no life b) = no := by
  unfold pNo sectB sectPre sectN sectL sectA
  rw [splice_apart _ _ _ _ _ (by rw [putB_length, ← sectA, ← sectL, ← sectN, ← sectPre, sectPre_length _ _ _ hb]; omega) (.inl (by omega)),
    splice_apart _ _ _ _ _ (by rw [← sectA, ← sectL, ← sectN, sectN_length]; omega) (.inl (by omega)), set_apart _ _ _ _ _ (.inr (by omega)),
    splice_apart _ _ _ _ _ (by rw [putB_length, ← sectA, sectA_length]; omega) (.inl (by omega))]
  have := splice_self (zeros 64) (putB 5 no) 0 (by rw [putB_length, zeros_length]; omega)
  rw [putB_length] at this
  rw [this, getN_putB _ _ (by omega)]
  exact Nat.mod_eq_of_lt (by have : 256 ^ 5 = 1099511627776 := by decide
                             omega)
theorem sectB_life (hb : b.length ≤ 48) (h : life < 281474976710656) : pLife (sectB no life b) = life := by
  unfold pLife sectB sectPre sectN sectL
  rw [splice_apart _ _ _ _ _ (by rw [putB_length, ← sectL, ← sectN, ← sectPre, sectPre_length _ _ _ hb]; omega) (.inl (by omega)),
    splice_apart _ _ _ _ _ (by rw [← sectL, ← sectN, sectN_length]; omega) (.inl (by omega)), set_apart _ _ _ _ _ (.inr (by omega))]
  have := splice_self (sectA no) (putB 6 life) 5 (by rw [putB_length, sectA_length]; omega)
  rw [putB_length] at this
  rw [this, getN_putB _ _ (by omega)]
  exact Nat.mod_eq_of_lt (by have : 256 ^ 6 = 281474976710656 := by decide
                             omega)
theorem sectB_n (hb : b.length ≤ 48) : pN (sectB no life b) = b.length := by
  unfold pN sectB sectPre sectN
  rw [List.getD_eq_getElem?_getD, splice_at _ _ _ _ (by rw [putB_length, ← sectN, ← sectPre, sectPre_length _ _ _ hb]; omega) (.inl (by omega)),
    splice_at _ _ _ _ (by rw [← sectN, sectN_length]; omega) (.inl (by omega)), List.getElem?_set_self (by rw [sectL_length]; omega)]
  show (UInt8.ofNat b.length).toNat = _
  rw [UInt8.toNat_ofNat']
  omega
theorem sectB_own (hb : b.length ≤ 48) : pOwn (sectB no life b) = b := by
  unfold pOwn
  rw [sectB_n no life b hb]
  unfold sectB
  rw [splice_apart _ _ _ _ _ (by rw [putB_length, sectPre_length _ _ _ hb]; omega) (.inr (by rw [putB_length]; omega))]
  unfold sectPre
  exact splice_self _ _ _ (by rw [sectN_length]; omega)
/-- A sector that was written whole is a good one. -/
theorem sectB_good (hb : b.length ≤ 48) (h0 : 0 < b.length) (h1 : no < 1099511627776) (h2 : life < 281474976710656) : pGood (sectB no life b) = true := by
  unfold pGood pOk
  rw [sectB_n no life b hb, sectB_no no life b hb h1, sectB_life no life b hb h2, sectB_own no life b hb]
  simp [hb, h0]
end

section
variable (x : Nat) (r : List UInt8)
theorem fraB_n (h : r.length < 4294967296) (rest : List UInt8) : tkN (fraB x r ++ rest) = r.length := by
  unfold tkN
  rw [List.drop_append_of_le_length (by rw [fraB_length]; omega), List.take_append_of_le_length (by rw [List.length_drop, fraB_length]; omega)]
  unfold fraB
  rw [splice_apart _ _ _ _ _ (by rw [putB_length, fraPre_length]; omega) (.inr (by rw [putB_length]; omega))]
  unfold fraPre
  rw [List.drop_append_of_le_length (by rw [fraH_length]; omega), List.take_append_of_le_length (by rw [List.length_drop, fraH_length]; omega)]
  unfold fraH
  rw [splice_apart _ _ _ _ _ (by rw [putB_length, fraN_length]; omega) (.inl (by omega))]
  have := splice_self (zeros 16) (putB 4 r.length) 4 (by rw [putB_length, zeros_length]; omega)
  rw [putB_length] at this
  unfold fraN
  rw [this, getN_putB _ _ (by omega)]
  exact Nat.mod_eq_of_lt (by have : 256 ^ 4 = 4294967296 := by decide
                             omega)
theorem fraB_lsn (h : x < 18446744073709551616) (rest : List UInt8) : getN (((fraB x r ++ rest).drop 8).take 8) = x := by
  rw [List.drop_append_of_le_length (by rw [fraB_length]; omega), List.take_append_of_le_length (by rw [List.length_drop, fraB_length]; omega)]
  unfold fraB
  rw [splice_apart _ _ _ _ _ (by rw [putB_length, fraPre_length]; omega) (.inr (by rw [putB_length]; omega))]
  unfold fraPre
  rw [List.drop_append_of_le_length (by rw [fraH_length]; omega), List.take_append_of_le_length (by rw [List.length_drop, fraH_length]; omega)]
  unfold fraH
  have := splice_self (fraN r.length) (putB 8 x) 8 (by rw [putB_length, fraN_length]; omega)
  rw [putB_length] at this
  rw [this, getN_putB _ _ (by omega)]
  exact Nat.mod_eq_of_lt (by have : 256 ^ 8 = 18446744073709551616 := by decide
                             omega)
theorem fraB_own (rest : List UInt8) : ((fraB x r ++ rest).drop 16).take r.length = r := by
  rw [List.drop_append_of_le_length (by rw [fraB_length]; omega), List.take_append_of_le_length (by rw [List.length_drop, fraB_length]; omega)]
  unfold fraB
  rw [splice_apart _ _ _ _ _ (by rw [putB_length, fraPre_length]; omega) (.inr (by rw [putB_length]; omega))]
  unfold fraPre
  rw [List.drop_append_of_le_length (by rw [fraH_length]; omega), show (16 : Nat) = (fraH x r.length).length from (fraH_length _ _).symm, List.drop_length]
  simp
theorem fraB_rec (h : r.length < 4294967296) (rest : List UInt8) : tkRec (fraB x r ++ rest) = r := by
  unfold tkRec
  rw [fraB_n x r h rest]
  exact fraB_own x r rest
/-- A record that was framed is taken again. -/
theorem fraB_ok (h : r.length ≤ 2000) (hx : x < 18446744073709551616) (rest : List UInt8) : tkOk x (fraB x r ++ rest) := by
  have hn := fraB_n x r (by omega) rest
  refine ⟨by rw [List.length_append, fraB_length]; omega, by rw [hn]; exact h, by rw [hn, List.length_append, fraB_length]; omega, fraB_lsn x r hx rest, ?_⟩
  rw [fraB_rec x r (by omega) rest, hn]
  rw [List.take_append_of_le_length (by rw [fraB_length]; omega), List.take_of_length_le (by rw [fraB_length]; omega)]
theorem fraB_rest (h : r.length < 4294967296) (rest : List UInt8) : (fraB x r ++ rest).drop (16 + tkN (fraB x r ++ rest)) = rest := by
  rw [fraB_n x r h rest, show 16 + r.length = (fraB x r).length from (fraB_length _ _).symm, List.drop_left]
end
end Go.Proofs.Ytieiopeblleheaa
