/-
  A head that was written is read again.
-/
import Derived.Test.YtieiopeblleheaaWalCode
import Derived.Test.YtieiopeblleheaaWalHead
namespace Go.Proofs.Ytieiopeblleheaa
set_option linter.unusedSimpArgs false
set_option linter.unusedVariables false
open Go.RowKit

section
variable (t l a : Nat)
theorem putB8_get (x : Nat) (h : x < 18446744073709551616) : getN (putB 8 x) = x := by
  rw [getN_putB _ _ (by omega)]
  exact Nat.mod_eq_of_lt (by have : 256 ^ 8 = 18446744073709551616 := by decide
                             omega)
theorem begB_turn (h : t < 18446744073709551616) : hTurn (begB t l a) = t := by
  unfold hTurn begB begPre begL begT
  rw [splice_apart _ _ _ _ _ (by rw [putB_length, ← begT, ← begL, ← begPre, begPre_length]; omega) (.inr (by rw [putB_length]; omega)),
    splice_apart _ _ _ _ _ (by rw [putB_length, ← begT, ← begL, begL_length]; omega) (.inl (by omega)),
    splice_apart _ _ _ _ _ (by rw [putB_length, ← begT, begT_length]; omega) (.inl (by omega))]
  have := splice_self begM (putB 8 t) 8 (by rw [putB_length, begM_length]; omega)
  rw [putB_length] at this
  rw [this, putB8_get _ h]
theorem begB_lsn (h : l < 18446744073709551616) : hLsn (begB t l a) = l := by
  unfold hLsn begB begPre begL
  rw [splice_apart _ _ _ _ _ (by rw [putB_length, ← begL, ← begPre, begPre_length]; omega) (.inr (by rw [putB_length]; omega)),
    splice_apart _ _ _ _ _ (by rw [putB_length, ← begL, begL_length]; omega) (.inl (by omega))]
  have := splice_self (begT t) (putB 8 l) 16 (by rw [putB_length, begT_length]; omega)
  rw [putB_length] at this
  rw [this, putB8_get _ h]
theorem begB_at (h : a < 18446744073709551616) : hAt (begB t l a) = a := by
  unfold hAt begB begPre
  rw [splice_apart _ _ _ _ _ (by rw [putB_length, ← begPre, begPre_length]; omega) (.inr (by rw [putB_length]; omega))]
  have := splice_self (begL t l) (putB 8 a) 24 (by rw [putB_length, begL_length]; omega)
  rw [putB_length] at this
  rw [this, putB8_get _ h]
/-- What a head that was written does to a log that is read. -/
theorem LS.head_beg (L : LS) (h0 : 0 < l) (h1 : t < 18446744073709551616) (h2 : l < 18446744073709551616) (h3 : a < 18446744073709551616) :
    L.head (begB t l a) = if L.turn < t then { L with turn := t, first := l, fin := a } else L := by
  unfold LS.head
  rw [begB_turn _ _ _ h1, begB_lsn _ _ _ h2, begB_at _ _ _ h3]
  by_cases h : L.turn < t
  · rw [if_pos ⟨h0, h, rfl⟩, if_pos h]
  · rw [if_neg (fun h' => h h'.2.1), if_neg h]
end
end Go.Proofs.Ytieiopeblleheaa
