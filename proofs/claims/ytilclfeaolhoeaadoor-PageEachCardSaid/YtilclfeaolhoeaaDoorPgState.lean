/-
  What a file's sectors hold (plain).
-/
import Derived.Test.YtilclfeaolhoeaaDoorPgLay
namespace Go.Proofs.YtilclfeaolhoeaaDoor
set_option linter.unusedSimpArgs false
set_option linter.unusedVariables false
open Go.RowKit

section
variable (x : PgV) (k : Nat)
theorem img_get {o n : Nat} (hd : x.d.length = 480) (h : o + n ≤ 28) : ((imgB x k).drop o).take n = ((imgT x k).drop o).take n := by
  unfold imgB
  rw [splice_apart _ _ _ _ _ (by rw [putB_length, imgD_length x k hd]; omega) (.inl (by omega))]
  unfold imgD
  rw [splice_apart _ _ _ _ _ (by rw [imgT_length]; omega) (.inl (by omega))]
theorem img_turn (hd : x.d.length = 480) (h : k < 18446744073709551616) : pgTurn (imgB x k) = k := by
  unfold pgTurn
  rw [img_get x k hd (by omega)]
  unfold imgT
  have := splice_self (imgL x) (putB 8 k) 16 (by rw [putB_length, imgL_length]; omega)
  rw [putB_length] at this
  rw [this, getN_putB _ _ (by omega)]
  exact Nat.mod_eq_of_lt (by have : 256 ^ 8 = 18446744073709551616 := by decide
                             omega)
theorem img_lsn (hd : x.d.length = 480) (h : x.lsn < 18446744073709551616) : getN (((imgB x k).drop 8).take 8) = x.lsn := by
  rw [img_get x k hd (by omega)]
  unfold imgT
  rw [splice_apart _ _ _ _ _ (by rw [putB_length, imgL_length]; omega) (.inl (by omega))]
  unfold imgL
  have := splice_self (imgA x) (putB 8 x.lsn) 8 (by rw [putB_length, imgA_length]; omega)
  rw [putB_length] at this
  rw [this, getN_putB _ _ (by omega)]
  exact Nat.mod_eq_of_lt (by have : 256 ^ 8 = 18446744073709551616 := by decide
                             omega)
theorem img_no (hd : x.d.length = 480) (h : x.no < 4294967296) : getN (((imgB x k).drop 4).take 4) = x.no := by
  rw [img_get x k hd (by omega)]
  unfold imgT
  rw [splice_apart _ _ _ _ _ (by rw [putB_length, imgL_length]; omega) (.inl (by omega))]
  unfold imgL
  rw [splice_apart _ _ _ _ _ (by rw [putB_length, imgA_length]; omega) (.inl (by omega))]
  unfold imgA
  have := splice_self imgM (putB 4 x.no) 4 (by rw [putB_length, imgM_length]; omega)
  rw [putB_length] at this
  rw [this, getN_putB _ _ (by omega)]
  exact Nat.mod_eq_of_lt (by have : 256 ^ 4 = 4294967296 := by decide
                             omega)
theorem img_d (hd : x.d.length = 480) : (imgB x k).drop 32 = x.d := by
  have h1 : (imgB x k).drop 32 = ((imgB x k).drop 32).take 480 := by
    rw [List.take_of_length_le]
    rw [List.length_drop, imgB_length x k hd]; omega
  rw [h1]
  unfold imgB
  rw [splice_apart _ _ _ _ _ (by rw [putB_length, imgD_length x k hd]; omega) (.inr (by rw [putB_length]; omega))]
  unfold imgD
  have := splice_self (imgT x k) x.d 32 (by rw [imgT_length]; omega)
  rwa [hd] at this
theorem img_first (hd : x.d.length = 480) : (imgB x k)[0]? = some 84 := by
  unfold imgB
  rw [splice_at _ _ _ _ (by rw [putB_length, imgD_length x k hd]; omega) (.inl (by omega))]
  unfold imgD
  rw [splice_at _ _ _ _ (by rw [imgT_length]; omega) (.inl (by omega))]
  unfold imgT
  rw [splice_at _ _ _ _ (by rw [putB_length, imgL_length]; omega) (.inl (by omega))]
  unfold imgL
  rw [splice_at _ _ _ _ (by rw [putB_length, imgA_length]; omega) (.inl (by omega))]
  unfold imgA
  rw [splice_at _ _ _ _ (by rw [putB_length, imgM_length]; omega) (.inl (by omega))]
  unfold imgM
  rw [List.getElem?_set_self (by rw [zeros_length]; omega)]
theorem img_x (h : x.Ok) : pgX (imgB x k) = x := by
  unfold pgX
  have := h.no
  rw [img_no x k h.d (by omega), img_lsn x k h.d h.lsn, img_d x k h.d]
theorem img_ok (h : x.Ok) (hk : k < 18446744073709551616) : pgOk (imgB x k) = true := by
  unfold pgOk
  rw [img_x x k h, img_turn x k h.d hk, List.getD_eq_getElem?_getD, img_first x k h.d]
  simp
theorem img_some (h : x.Ok) : (imgB x k).all (· == 0) = false := by
  cases hb : (imgB x k).all (· == 0)
  · rfl
  · rw [List.all_eq_true] at hb
    have := hb 84 (List.mem_of_getElem? (img_first x k h.d))
    simp at this
end
theorem zeros_all (n : Nat) : (zeros n).all (· == 0) = true := by
  rw [List.all_eq_true]
  intro x hx
  unfold zeros at hx
  rw [List.mem_replicate] at hx
  rw [hx.2]; rfl
theorem zeros_notok : pgOk (zeros 512) = false := by
  unfold pgOk
  have : (zeros 512).getD 0 0 = 0 := by
    rw [List.getD_eq_getElem?_getD]
    unfold zeros
    rw [List.getElem?_replicate, if_pos (by omega)]; rfl
  rw [this]; rfl
theorem lot_n (t n : Nat) (h : n < 18446744073709551616) : getN (((lotB t n).drop 8).take 8) = n := by
  unfold lotB
  rw [splice_apart _ _ _ _ _ (by rw [putB_length, lotT_length]; omega) (.inl (by omega))]
  unfold lotT
  rw [splice_apart _ _ _ _ _ (by rw [putB_length, lotN_length]; omega) (.inl (by omega))]
  unfold lotN
  have := splice_self lotM (putB 8 n) 8 (by rw [putB_length, lotM_length]; omega)
  rw [putB_length] at this
  rw [this, getN_putB _ _ (by omega)]
  exact Nat.mod_eq_of_lt (by have : 256 ^ 8 = 18446744073709551616 := by decide
                             omega)
theorem lot_turn (t n : Nat) (h : t < 18446744073709551616) : getN (((lotB t n).drop 16).take 8) = t := by
  unfold lotB
  rw [splice_apart _ _ _ _ _ (by rw [putB_length, lotT_length]; omega) (.inl (by omega))]
  unfold lotT
  have := splice_self (lotN n) (putB 8 t) 16 (by rw [putB_length, lotN_length]; omega)
  rw [putB_length] at this
  rw [this, getN_putB _ _ (by omega)]
  exact Nat.mod_eq_of_lt (by have : 256 ^ 8 = 18446744073709551616 := by decide
                             omega)
theorem lot_first (t n : Nat) : (lotB t n)[0]? = some 85 := by
  unfold lotB
  rw [splice_at _ _ _ _ (by rw [putB_length, lotT_length]; omega) (.inl (by omega))]
  unfold lotT
  rw [splice_at _ _ _ _ (by rw [putB_length, lotN_length]; omega) (.inl (by omega))]
  unfold lotN
  rw [splice_at _ _ _ _ (by rw [putB_length, lotM_length]; omega) (.inl (by omega))]
  unfold lotM
  rw [List.getElem?_set_self (by rw [zeros_length]; omega)]
theorem getN_zeros : ∀ n, getN (zeros n) = 0
  | 0 => rfl
  | n + 1 => by
    have : zeros (n + 1) = zeros n ++ [0] := by unfold zeros; rw [List.replicate_succ']
    rw [this, getN_snoc, getN_zeros n]; rfl
theorem zeros_part (m o n : Nat) (h : o + n ≤ m) : ((zeros m).drop o).take n = zeros n := by
  unfold zeros
  rw [List.drop_replicate, List.take_replicate]
  congr 1; omega

/-! ### sectors that were written -/
def wrNow (now : List (List UInt8)) (i : Nat) (b : List UInt8) : Nat → List (List UInt8)
  | 0 => now
  | k + 1 => (wrNow now i b k).set (i + k) ((b.drop (64 * k)).take 64)
theorem wrAll_now {S : DS} (h : Calm S) (i : Nat) (b : List UInt8) : ∀ k, (wrAll S i b k).now = wrNow S.now i b k
  | 0 => rfl
  | k + 1 => by rw [wrAll, (wrAll_calm h i b k).wr_now, wrAll_now h i b k]; rfl
theorem wrNow_length (now : List (List UInt8)) (i : Nat) (b : List UInt8) : ∀ k, (wrNow now i b k).length = now.length
  | 0 => rfl
  | k + 1 => by rw [wrNow, List.length_set, wrNow_length now i b k]
theorem wrNow_other (now : List (List UInt8)) (i : Nat) (b : List UInt8) (j : Nat) : ∀ k, (j < i ∨ i + k ≤ j) → (wrNow now i b k)[j]? = now[j]?
  | 0, _ => rfl
  | k + 1, h => by rw [wrNow, List.getElem?_set_ne (by omega), wrNow_other now i b j k (by omega)]
theorem wrNow_at (now : List (List UInt8)) (i : Nat) (b : List UInt8) (j : Nat) : ∀ k, j < k → i + k ≤ now.length → (wrNow now i b k)[i + j]? = some ((b.drop (64 * j)).take 64)
  | k + 1, hj, hl => by
    rw [wrNow]
    by_cases e : j = k
    · subst e
      rw [List.getElem?_set_self (by rw [wrNow_length]; omega)]
    · rw [List.getElem?_set_ne (by omega), wrNow_at now i b j k (by omega) (by omega)]
theorem secN_congr {a b : List (List UInt8)} (i : Nat) : ∀ n, (∀ k, k < n → a[i + k]? = b[i + k]?) → secN a i n = secN b i n
  | 0, _ => rfl
  | n + 1, h => by
    rw [secN, secN, secN_congr i n (fun k hk => h k (by omega)), List.getD_eq_getElem?_getD, List.getD_eq_getElem?_getD, h n (by omega)]
theorem secN_wr_take (now : List (List UInt8)) (i : Nat) (b : List UInt8) (n : Nat) (h : i + n ≤ now.length) : ∀ m, m ≤ n → secN (wrNow now i b n) i m = b.take (64 * m)
  | 0, _ => by simp [secN]
  | m + 1, hm => by
    rw [secN, secN_wr_take now i b n h m (by omega), List.getD_eq_getElem?_getD, wrNow_at now i b m n (by omega) h, Option.getD_some, show 64 * (m + 1) = 64 * m + 64 from by omega, List.take_add]
theorem secN_wr (now : List (List UInt8)) (i : Nat) (b : List UInt8) (n : Nat) (h : i + n ≤ now.length) (hb : b.length = 64 * n) : secN (wrNow now i b n) i n = b := by
  rw [secN_wr_take now i b n h n (Nat.le_refl _), List.take_of_length_le (by omega)]
theorem secN_wr_other (now : List (List UInt8)) (i : Nat) (b : List UInt8) (n j m : Nat) (h : j + m ≤ i ∨ i + n ≤ j) : secN (wrNow now i b n) j m = secN now j m :=
  secN_congr j m (fun k hk => wrNow_other now i b (j + k) n (by omega))
/-- What stands is written again. -/
theorem secN_piece {now : List (List UInt8)} (hs : ∀ (j : Nat) s, now[j]? = some s → s.length = 64) (i n : Nat) (h : i + n ≤ now.length) (k : Nat) (hk : k < n) : now[i + k]? = some (((secN now i n).drop (64 * k)).take 64) := by
  induction n with
  | zero => omega
  | succ n ih =>
    have hl := secN_length hs i n (by omega)
    have hlt : i + n < now.length := by omega
    have hg : now.getD (i + n) [] = now[i + n] := by rw [List.getD_eq_getElem?_getD, List.getElem?_eq_getElem hlt]; rfl
    have h64 := hs (i + n) _ (List.getElem?_eq_getElem hlt)
    by_cases e : k = n
    · subst e
      rw [secN, hg, List.drop_append_of_le_length (by omega), List.drop_of_length_le (by omega), List.nil_append, List.take_of_length_le (by omega), List.getElem?_eq_getElem hlt]
    · rw [ih (by omega) (by omega), secN, List.drop_append_of_le_length (by omega), List.take_append_of_le_length (by rw [List.length_drop]; omega)]
theorem wrNow_same {now : List (List UInt8)} (hs : ∀ (j : Nat) s, now[j]? = some s → s.length = 64) (i n : Nat) (h : i + n ≤ now.length) : ∀ k, k ≤ n → wrNow now i (secN now i n) k = now
  | 0, _ => rfl
  | k + 1, hk => by
    rw [wrNow, wrNow_same hs i n h k (by omega)]
    have := secN_piece hs i n h k (by omega)
    apply List.ext_getElem?
    intro j
    by_cases e : i + k = j
    · subst e
      rw [List.getElem?_set_self (by omega), this]
    · rw [List.getElem?_set_ne e]
end Go.Proofs.YtilclfeaolhoeaaDoor
