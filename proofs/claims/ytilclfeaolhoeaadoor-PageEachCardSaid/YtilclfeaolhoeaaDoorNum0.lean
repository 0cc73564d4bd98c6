/-
  Numbers as bytes, and parts of rows that were spliced (plain).
-/
import Derived.Test.YtilclfeaolhoeaaDoorBytes0
import Derived.Laws.CopyOwn
namespace Go.Proofs.YtilclfeaolhoeaaDoor
set_option linter.unusedSimpArgs false
set_option linter.unusedVariables false
open Go.RowKit

/-- One byte more. -/
theorem or_byte (y b : Nat) (hb : b < 256) : bits .or .u64 (IntKind.u64.wrap ((y : Int) * 256)) (IntKind.u64.wrap (b : Int)) = (((y * 256 + b) % 18446744073709551616 : Nat) : Int) := by
  have e1 : IntKind.u64.wrap ((y : Int) * 256) = ((y % 72057594037927936 * 256 : Nat) : Int) := by rw [wrap_u64']; omega
  have e2 : IntKind.u64.wrap (b : Int) = (b : Int) := by rw [wrap_u64']; omega
  rw [e1, e2]
  show IntKind.u64.wrap (((BitVec.ofInt 64 ((y % 72057594037927936 * 256 : Nat) : Int) ||| BitVec.ofInt 64 (b : Int)).toNat : Nat) : Int) = _
  have h1 : (BitVec.ofInt 64 ((y % 72057594037927936 * 256 : Nat) : Int)).toNat = y % 72057594037927936 * 256 := by
    rw [BitVec.toNat_ofInt]; omega
  have h2 : (BitVec.ofInt 64 (b : Int)).toNat = b := by rw [BitVec.toNat_ofInt]; omega
  rw [BitVec.toNat_or, h1, h2]
  have h3 : y % 72057594037927936 * 256 ||| b = y % 72057594037927936 * 256 + b := by
    have := Nat.shiftLeft_add_eq_or_of_lt (b := b) (i := 8) (by omega) (y % 72057594037927936)
    rw [Nat.shiftLeft_eq] at this
    exact this.symm
  rw [h3, wrap_u64']
  omega
def getN (l : List UInt8) : Nat := l.foldl (fun x c => (x * 256 + c.toNat) % 18446744073709551616) 0
theorem getN_snoc (l : List UInt8) (c : UInt8) : getN (l ++ [c]) = (getN l * 256 + c.toNat) % 18446744073709551616 := by simp [getN]
theorem getN_lt (l : List UInt8) : getN l < 18446744073709551616 := by
  rcases List.eq_nil_or_concat l with rfl | ⟨l, c, rfl⟩
  · simp [getN]
  · rw [List.concat_eq_append, getN_snoc]; omega
theorem getN_take (l : List UInt8) (k : Nat) (h : k < l.length) : getN (l.take (k + 1)) = (getN (l.take k) * 256 + l[k].toNat) % 18446744073709551616 := by
  rw [← getN_snoc, List.take_add_one, List.getElem?_eq_getElem h]; rfl

/-- A number's low bytes, the greatest first. -/
def putB (n : Nat) (x : Nat) : List UInt8 := (List.range n).map fun j => UInt8.ofNat (x / 256 ^ (n - 1 - j) % 256)
theorem putB_length (n x : Nat) : (putB n x).length = n := by simp [putB]

theorem splice_get {α : Type} (L cs : List α) (o i : Nat) (h : o + cs.length ≤ L.length) : (splice L o cs)[i]? = if i < o then L[i]? else if i < o + cs.length then cs[i - o]? else L[i]? := by
  unfold splice
  have hl : (L.take o).length = o := by rw [List.length_take]; omega
  by_cases h1 : i < o
  · rw [if_pos h1, List.getElem?_append_left (by rw [hl]; exact h1), List.getElem?_take_of_lt h1]
  · rw [if_neg h1, List.getElem?_append_right (by rw [hl]; omega), hl]
    by_cases h2 : i < o + cs.length
    · rw [if_pos h2, List.getElem?_append_left (by omega)]
    · rw [if_neg h2, List.getElem?_append_right (by omega), List.getElem?_drop, show o + cs.length + (i - o - cs.length) = i from by omega]
theorem putB_get (n x j : Nat) (h : j < n) : (putB n x)[j]? = some (UInt8.ofNat (x / 256 ^ (n - 1 - j) % 256)) := by
  unfold putB
  rw [List.getElem?_map, List.getElem?_range h]; rfl
/-- One more of the last k of a splice. -/
theorem splice_step {α : Type} (L P : List α) (o k : Nat) (v : α) (hk : k < P.length) (h : o + P.length ≤ L.length) (hv : P[P.length - 1 - k]? = some v) :
    (splice L (o + P.length - k) (P.drop (P.length - k))).set (o + (P.length - 1 - k)) v = splice L (o + P.length - (k + 1)) (P.drop (P.length - (k + 1))) := by
  apply List.ext_getElem?
  intro i
  have e1 : (P.drop (P.length - k)).length = k := by rw [List.length_drop]; omega
  have e2 : (P.drop (P.length - (k + 1))).length = k + 1 := by rw [List.length_drop]; omega
  have f1 : o + P.length - k + (P.drop (P.length - k)).length ≤ L.length := by rw [e1]; omega
  have f2 : o + P.length - (k + 1) + (P.drop (P.length - (k + 1))).length ≤ L.length := by rw [e2]; omega
  rw [List.getElem?_set, splice_get _ _ _ _ f2, splice_get _ _ _ _ f1, length_splice _ _ _ f1, e1, e2]
  by_cases hi : o + (P.length - 1 - k) = i
  · subst hi
    rw [if_pos rfl, if_pos (by omega), if_neg (by omega), if_pos (by omega), List.getElem?_drop, ← hv]
    congr 1
    omega
  · rw [if_neg hi]
    by_cases h1 : i < o + P.length - (k + 1)
    · rw [if_pos (by omega), if_pos h1]
    · by_cases h2 : i < o + P.length
      · rw [if_neg (by omega), if_pos (by omega), if_neg h1, if_pos (by omega), List.getElem?_drop, List.getElem?_drop]
        congr 1
        omega
      · rw [if_neg (by omega), if_neg (by omega), if_neg h1, if_neg (by omega)]
theorem putB_at (n x k : Nat) (hk : k < n) : (bts (putB n x))[(bts (putB n x)).length - 1 - k]? = some (.int .u8 ((x : Int) / 2 ^ (8 * k) % 256)) := by
  rw [bts_length, putB_length, bts_get, putB_get _ _ _ (by omega), show n - 1 - (n - 1 - k) = k from by omega]
  have h256 : (2 : Nat) ^ (8 * k) = 256 ^ k := by rw [Nat.pow_mul]
  have hv : (x : Int) / 2 ^ (8 * k) % 256 = (((x / 256 ^ k % 256 : Nat)) : Int) := by
    rw [← h256]; simp
  rw [hv]
  simp
theorem bts_splice (L cs : List UInt8) (o : Nat) : bts (splice L o cs) = splice (bts L) o (bts cs) := by
  simp [splice, bts, List.map_take, List.map_drop]

def zeros (n : Nat) : List UInt8 := List.replicate n 0
theorem zeros_length (n : Nat) : (zeros n).length = n := by simp [zeros]
theorem bts_set (L : List UInt8) (i : Nat) (x : UInt8) : (bts L).toArray.setIfInBounds i (.int .u8 x.toNat) = (bts (L.set i x)).toArray := by
  rw [List.setIfInBounds_toArray]; simp [bts, List.map_set]

theorem wrap_nat {n : Nat} (h : n < 18446744073709551616) : IntKind.u64.wrap (n : Int) = n := by rw [wrap_u64']; omega
theorem putB_snoc (n x : Nat) : putB (n + 1) x = putB n (x / 256) ++ [UInt8.ofNat (x % 256)] := by
  apply List.ext_getElem?
  intro j
  by_cases h : j < n
  · rw [putB_get _ _ _ (by omega), List.getElem?_append_left (by rw [putB_length]; exact h), putB_get _ _ _ h]
    rw [Nat.div_div_eq_div_mul, ← Nat.pow_succ', show n + 1 - 1 - j = (n - 1 - j).succ from by omega]
  · by_cases e : j = n
    · subst e
      rw [putB_get _ _ _ (by omega), List.getElem?_append_right (by rw [putB_length]; omega), putB_length]
      simp
    · rw [List.getElem?_eq_none (by rw [putB_length]; omega), List.getElem?_eq_none (by rw [List.length_append, putB_length]; simp; omega)]
theorem getN_putB : ∀ (n x : Nat), n ≤ 8 → getN (putB n x) = x % 256 ^ n
  | 0, x, _ => by simp [putB, getN, Nat.mod_one]
  | n + 1, x, h => by
    rw [putB_snoc, getN_snoc, getN_putB n _ (by omega), UInt8.toNat_ofNat']
    have h1 : 256 ^ (n + 1) = 256 ^ n * 256 := Nat.pow_succ ..
    have h2 : 256 ^ (n + 1) ≤ 256 ^ 8 := Nat.pow_le_pow_right (by omega) h
    have h3 : 256 ^ 8 = 18446744073709551616 := by decide
    have h4 : x % 256 ^ (n + 1) = x / 256 % 256 ^ n * 256 + x % 256 := by
      rw [Nat.pow_succ', Nat.mod_mul, Nat.add_comm, Nat.mul_comm]
    have h5 := Nat.mod_lt x (show 0 < 256 ^ (n + 1) from Nat.pow_pos (by omega))
    rw [h4] at h5 ⊢
    omega

section
variable {α : Type}
/-- A part that lies apart from what was spliced in. -/
theorem splice_apart (L cs : List α) (o p n : Nat) (h : o + cs.length ≤ L.length) (ha : p + n ≤ o ∨ o + cs.length ≤ p) : ((splice L o cs).drop p).take n = (L.drop p).take n := by
  apply List.ext_getElem?
  intro j
  rw [List.getElem?_take, List.getElem?_take]
  split
  · rw [List.getElem?_drop, List.getElem?_drop, splice_get _ _ _ _ h]
    rcases ha with ha | ha
    · rw [if_pos (by omega)]
    · rw [if_neg (by omega), if_neg (by omega)]
  · rfl
theorem splice_self (L cs : List α) (o : Nat) (h : o + cs.length ≤ L.length) : ((splice L o cs).drop o).take cs.length = cs := by
  apply List.ext_getElem?
  intro j
  rw [List.getElem?_take]
  split
  · rw [List.getElem?_drop, splice_get _ _ _ _ h, if_neg (by omega), if_pos (by omega)]
    congr 1; omega
  · rw [List.getElem?_eq_none (by omega)]
theorem splice_at (L cs : List α) (o i : Nat) (h : o + cs.length ≤ L.length) (ha : i < o ∨ o + cs.length ≤ i) : (splice L o cs)[i]? = L[i]? := by
  rw [splice_get _ _ _ _ h]
  rcases ha with ha | ha
  · rw [if_pos ha]
  · rw [if_neg (by omega), if_neg (by omega)]
theorem set_apart (L : List α) (i p n : Nat) (v : α) (h : i < p ∨ p + n ≤ i) : ((L.set i v).drop p).take n = (L.drop p).take n := by
  apply List.ext_getElem?
  intro j
  rw [List.getElem?_take, List.getElem?_take]
  split
  · rw [List.getElem?_drop, List.getElem?_drop, List.getElem?_set_ne (by omega)]
  · rfl
end

end Go.Proofs.YtilclfeaolhoeaaDoor
