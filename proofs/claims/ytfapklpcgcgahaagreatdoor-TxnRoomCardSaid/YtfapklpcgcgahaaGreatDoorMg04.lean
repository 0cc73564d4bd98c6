/-
  Num0, Wal1, Wal2, Wal3, in one text.
-/
import Derived.Test.YtfapklpcgcgahaaGreatDoorMg03
import Derived.Laws.CopyOwn
import Derived.WalkKit
import Derived.WalkSpells
import Derived.WalkLawsBesides
import Derived.Test.YtfapklpcgcgahaaGreatDoorMg02
/-
  Numbers as bytes, and parts of rows that were spliced (plain).
-/
namespace Go.Proofs.YtfapklpcgcgahaaGreatDoor
set_option linter.unusedSimpArgs false
set_option linter.unusedVariables false
open Go.RowKit

/-- One byte more. -/
theorem or_byte (y b : Nat) (hb : b < 256) : bits .or .u64 (IntKind.u64.wrap ((y : Int) * 256)) (IntKind.u64.wrap (b : Int)) = (((y * 256 + b) % 18446744073709551616 : Nat) : Int) := by
  have e1 : IntKind.u64.wrap ((y : Int) * 256) = ((y % 72057594037927936 * 256 : Nat) : Int) := by rw [wrap_u64']; omega
  have e2 : IntKind.u64.wrap (b : Int) = (b : Int) := by rw [wrap_u64']; omega
  rw [e1, e2]
  show IntKind.u64.wrap (((BitVec.ofInt 64 ((y % 72057594037927936 * 256 : Nat) : Int) ||| BitVec.ofInt 64 (b : Int)).toNat : Nat) : Int) = _
  have h1 : (BitVec.ofInt 64 ((y % 72057594037927936 * 256 : Nat) : Int)).toNat = y % 72057594037927936 * 256 := by
    rw [BitVec.toNat_ofInt]; omega
  have h2 : (BitVec.ofInt 64 (b : Int)).toNat = b := by rw [BitVec.toNat_ofInt]; omega
  rw [BitVec.toNat_or, h1, h2]
  have h3 : y % 72057594037927936 * 256 ||| b = y % 72057594037927936 * 256 + b := by
    have := Nat.shiftLeft_add_eq_or_of_lt (b := b) (i := 8) (by omega) (y % 72057594037927936)
    rw [Nat.shiftLeft_eq] at this
    exact this.symm
  rw [h3, wrap_u64']
  omega
def getN (l : List UInt8) : Nat := l.foldl (fun x c => (x * 256 + c.toNat) % 18446744073709551616) 0
theorem getN_snoc (l : List UInt8) (c : UInt8) : getN (l ++ [c]) = (getN l * 256 + c.toNat) % 18446744073709551616 := by simp [getN]
theorem getN_lt (l : List UInt8) : getN l < 18446744073709551616 := by
  rcases List.eq_nil_or_concat l with rfl | ⟨l, c, rfl⟩
  · simp [getN]
  · rw [List.concat_eq_append, getN_snoc]; omega
theorem getN_take (l : List UInt8) (k : Nat) (h : k < l.length) : getN (l.take (k + 1)) = (getN (l.take k) * 256 + l[k].toNat) % 18446744073709551616 := by
  rw [← getN_snoc, List.take_add_one, List.getElem?_eq_getElem h]; rfl

/-- A number's low bytes, the greatest first. -/
def putB (n : Nat) (x : Nat) : List UInt8 := (List.range n).map fun j => UInt8.ofNat (x / 256 ^ (n - 1 - j) % 256)
theorem putB_length (n x : Nat) : (putB n x).length = n := by simp [putB]

theorem splice_get {α : Type} (L cs : List α) (o i : Nat) (h : o + cs.length ≤ L.length) : (splice L o cs)[i]? = if i < o then L[i]? else if i < o + cs.length then cs[i - o]? else L[i]? := by
  unfold splice
  have hl : (L.take o).length = o := by rw [List.length_take]; omega
  by_cases h1 : i < o
  · rw [if_pos h1, List.getElem?_append_left (by rw [hl]; exact h1), List.getElem?_take_of_lt h1]
  · rw [if_neg h1, List.getElem?_append_right (by rw [hl]; omega), hl]
    by_cases h2 : i < o + cs.length
    · rw [if_pos h2, List.getElem?_append_left (by omega)]
    · rw [if_neg h2, List.getElem?_append_right (by omega), List.getElem?_drop, show o + cs.length + (i - o - cs.length) = i from by omega]
theorem putB_get (n x j : Nat) (h : j < n) : (putB n x)[j]? = some (UInt8.ofNat (x / 256 ^ (n - 1 - j) % 256)) := by
  unfold putB
  rw [List.getElem?_map, List.getElem?_range h]; rfl
/-- One more of the last k of a splice. -/
theorem splice_step {α : Type} (L P : List α) (o k : Nat) (v : α) (hk : k < P.length) (h : o + P.length ≤ L.length) (hv : P[P.length - 1 - k]? = some v) :
    (splice L (o + P.length - k) (P.drop (P.length - k))).set (o + (P.length - 1 - k)) v = splice L (o + P.length - (k + 1)) (P.drop (P.length - (k + 1))) := by
  apply List.ext_getElem?
  intro i
  have e1 : (P.drop (P.length - k)).length = k := by rw [List.length_drop]; omega
  have e2 : (P.drop (P.length - (k + 1))).length = k + 1 := by rw [List.length_drop]; omega
  have f1 : o + P.length - k + (P.drop (P.length - k)).length ≤ L.length := by rw [e1]; omega
  have f2 : o + P.length - (k + 1) + (P.drop (P.length - (k + 1))).length ≤ L.length := by rw [e2]; omega
  rw [List.getElem?_set, splice_get _ _ _ _ f2, splice_get _ _ _ _ f1, length_splice _ _ _ f1, e1, e2]
  by_cases hi : o + (P.length - 1 - k) = i
  · subst hi
    rw [if_pos rfl, if_pos (by omega), if_neg (by omega), if_pos (by omega), List.getElem?_drop, ← hv]
    congr 1
    omega
  · rw [if_neg hi]
    by_cases h1 : i < o + P.length - (k + 1)
    · rw [if_pos (by omega), if_pos h1]
    · by_cases h2 : i < o + P.length
      · rw [if_neg (by omega), if_pos (by omega), if_neg h1, if_pos (by omega), List.getElem?_drop, List.getElem?_drop]
        congr 1
        omega
      · rw [if_neg (by omega), if_neg (by omega), if_neg h1, if_neg (by omega)]
theorem putB_at (n x k : Nat) (hk : k < n) : (bts (putB n x))[(bts (putB n x)).length - 1 - k]? = some (.int .u8 ((x : Int) / 2 ^ (8 * k) % 256)) := by
  rw [bts_length, putB_length, bts_get, putB_get _ _ _ (by omega), show n - 1 - (n - 1 - k) = k from by omega]
  have h256 : (2 : Nat) ^ (8 * k) = 256 ^ k := by rw [Nat.pow_mul]
  have hv : (x : Int) / 2 ^ (8 * k) % 256 = (((x / 256 ^ k % 256 : Nat)) : Int) := by
    rw [← h256]; simp
  rw [hv]
  simp
theorem bts_splice (L cs : List UInt8) (o : Nat) : bts (splice L o cs) = splice (bts L) o (bts cs) := by
  simp [splice, bts, List.map_take, List.map_drop]

def zeros (n : Nat) : List UInt8 := List.replicate n 0
theorem zeros_length (n : Nat) : (zeros n).length = n := by simp [zeros]
theorem bts_set (L : List UInt8) (i : Nat) (x : UInt8) : (bts L).toArray.setIfInBounds i (.int .u8 x.toNat) = (bts (L.set i x)).toArray := by
  rw [List.setIfInBounds_toArray]; simp [bts, List.map_set]

theorem wrap_nat {n : Nat} (h : n < 18446744073709551616) : IntKind.u64.wrap (n : Int) = n := by rw [wrap_u64']; omega
theorem putB_snoc (n x : Nat) : putB (n + 1) x = putB n (x / 256) ++ [UInt8.ofNat (x % 256)] := by
  apply List.ext_getElem?
  intro j
  by_cases h : j < n
  · rw [putB_get _ _ _ (by omega), List.getElem?_append_left (by rw [putB_length]; exact h), putB_get _ _ _ h]
    rw [Nat.div_div_eq_div_mul, ← Nat.pow_succ', show n + 1 - 1 - j = (n - 1 - j).succ from by omega]
  · by_cases e : j = n
    · subst e
      rw [putB_get _ _ _ (by omega), List.getElem?_append_right (by rw [putB_length]; omega), putB_length]
      simp
    · rw [List.getElem?_eq_none (by rw [putB_length]; omega), List.getElem?_eq_none (by rw [List.length_append, putB_length]; simp; omega)]
theorem getN_putB : ∀ (n x : Nat), n ≤ 8 → getN (putB n x) = x % 256 ^ n
  | 0, x, _ => by simp [putB, getN, Nat.mod_one]
  | n + 1, x, h => by
    rw [putB_snoc, getN_snoc, getN_putB n _ (by omega), UInt8.toNat_ofNat']
    have h1 : 256 ^ (n + 1) = 256 ^ n * 256 := Nat.pow_succ ..
    have h2 : 256 ^ (n + 1) ≤ 256 ^ 8 := Nat.pow_le_pow_right (by omega) h
    have h3 : 256 ^ 8 = 18446744073709551616 := by decide
    have h4 : x % 256 ^ (n + 1) = x / 256 % 256 ^ n * 256 + x % 256 := by
      rw [Nat.pow_succ', Nat.mod_mul, Nat.add_comm, Nat.mul_comm]
    have h5 := Nat.mod_lt x (show 0 < 256 ^ (n + 1) from Nat.pow_pos (by omega))
    rw [h4] at h5 ⊢
    omega

section
variable {α : Type}
/-- A part that lies apart from what was spliced in. -/
theorem splice_apart (L cs : List α) (o p n : Nat) (h : o + cs.length ≤ L.length) (ha : p + n ≤ o ∨ o + cs.length ≤ p) : ((splice L o cs).drop p).take n = (L.drop p).take n := by
  apply List.ext_getElem?
  intro j
  rw [List.getElem?_take, List.getElem?_take]
  split
  · rw [List.getElem?_drop, List.getElem?_drop, splice_get _ _ _ _ h]
    rcases ha with ha | ha
    · rw [if_pos (by omega)]
    · rw [if_neg (by omega), if_neg (by omega)]
  · rfl
theorem splice_self (L cs : List α) (o : Nat) (h : o + cs.length ≤ L.length) : ((splice L o cs).drop o).take cs.length = cs := by
  apply List.ext_getElem?
  intro j
  rw [List.getElem?_take]
  split
  · rw [List.getElem?_drop, splice_get _ _ _ _ h, if_neg (by omega), if_pos (by omega)]
    congr 1; omega
  · rw [List.getElem?_eq_none (by omega)]
theorem splice_at (L cs : List α) (o i : Nat) (h : o + cs.length ≤ L.length) (ha : i < o ∨ o + cs.length ≤ i) : (splice L o cs)[i]? = L[i]? := by
  rw [splice_get _ _ _ _ h]
  rcases ha with ha | ha
  · rw [if_pos ha]
  · rw [if_neg (by omega), if_neg (by omega)]
theorem set_apart (L : List α) (i p n : Nat) (v : α) (h : i < p ∨ p + n ≤ i) : ((L.set i v).drop p).take n = (L.drop p).take n := by
  apply List.ext_getElem?
  intro j
  rw [List.getElem?_take, List.getElem?_take]
  split
  · rw [List.getElem?_drop, List.getElem?_drop, List.getElem?_set_ne (by omega)]
  · rfl
end

end Go.Proofs.YtfapklpcgcgahaaGreatDoor

/-
  Numbers as bytes: get, put.
-/
namespace Go.Proofs.YtfapklpcgcgahaaGreatDoor
set_option linter.unusedSimpArgs false
set_option linter.unusedVariables false
open Go.RowKit

set_option maxRecDepth 100000 in
theorem get_any (A : Option Addr) (c : Nat) (l : List UInt8) (w : World) (h : BytesIn w A l) (hl : l.length ≤ 4000000000) :
    Calls Tryz.prog 101 #[.slice A l.length c] w fun e w' => e = .returned (.int .u64 (getN l)) ∧ w = w' := by
  have H := Lib.hid h
  clear h
  go_enter Tryz.func101, Tryz.ntmps101
  go_wp2
  go_loopw [3, 5, 8] (fun x _ i wr => ∃ k : Nat, k ≤ l.length ∧ i = .int .i64 k ∧ x = .int .u64 (getN (l.take k)) ∧ w = wr) (fun _ _ i _ => l.length - (intOf i).toNat)
  case atStart => exact ⟨0, by omega, rfl, by simp [getN], rfl⟩
  case round =>
    obtain ⟨k, hk, rfl, rfl, rfl⟩ := hrel
    by_cases hlt : k < l.length
    · obtain ⟨g, o, hA, hc⟩ := H.out (by omega)
      subst hA
      have c0 := hc k _ (List.getElem?_eq_getElem hlt)
      clear hc
      have hs := getN_take l k hlt
      have HS : Hid (bits .or .u64 (IntKind.u64.wrap ((getN (l.take k) : Nat) * 256 : Int)) (IntKind.u64.wrap ((l[k].toNat : Nat) : Int)) = ((getN (l.take (k + 1)) : Nat) : Int)) := by
        show _ = _
        rw [hs]; exact or_byte _ _ (UInt8.toNat_lt _)
      clear hs
      generalize l[k] = b at *
      go_wp2
      go_roundw
      case rel => exact ⟨k + 1, by omega, by go_num, by rw [HS.out], by trivial⟩
      case measure => simp [intOf]; omega
    · obtain rfl : k = l.length := by omega
      rw [List.take_length]
      go_wp2
      go_ret
      exact ⟨rfl, rfl⟩

set_option maxRecDepth 100000 in
theorem put_at (g o n c : Nat) (cs : List Value) (x : Nat) (w : World) (hb : Blk w g 5 cs.toArray) (ho : o + n ≤ cs.length) (hx : x < 18446744073709551616) (hn : n ≤ 8) :
    Calls Tryz.prog 122 #[.slice (some ⟨g, o, none⟩) n c, .int .u64 x] w fun e w' => e = .returned (.tuple #[]) ∧ Blk w' g 5 (splice cs o (bts (putB n x))).toArray ∧ Fr (fun b => b = g) w w' := by
  obtain ⟨P, hP⟩ : ∃ P, bts (putB n x) = P := ⟨_, rfl⟩
  have hat := fun k hk => putB_at n x k hk
  have hPl : P.length = n := by rw [← hP, bts_length, putB_length]
  rw [hP] at hat ⊢
  have H : Hid (Blk w g 5 (splice cs (o + P.length - 0) (P.drop (P.length - 0))).toArray) := by
    show Blk _ _ _ _
    rw [Nat.sub_zero, Nat.sub_zero, List.drop_length]
    unfold splice
    rw [List.length_nil, Nat.add_zero, List.nil_append, List.take_append_drop]; exact hb
  have HAt := Lib.hid hat
  have HPl := Lib.hid hPl
  clear hb hat hP hPl
  go_enter Tryz.func122, Tryz.ntmps122
  go_wp2
  go_loopw [4, 7] (fun _ i wr => ∃ k : Nat, k ≤ n ∧ i = .int .i64 k ∧ Hid (Blk wr g 5 (splice cs (o + P.length - k) (P.drop (P.length - k))).toArray) ∧ Hid (Fr (fun b => b = g) w wr)) (fun _ i _ => n - (intOf i).toNat)
  case atStart => exact ⟨0, by omega, rfl, H, Fr.refl _ _⟩
  case round =>
    clear H
    obtain ⟨k, hk, rfl, hB, hF⟩ := hrel
    by_cases hlt : k < n
    · have hl1 : (splice cs (o + P.length - k) (P.drop (P.length - k))).length = cs.length := by
        have := HPl.out
        exact length_splice _ _ _ (by rw [List.length_drop]; omega)
      have HS : Hid (Blk (wr.setCell ⟨g, o + (n - 1 - k), none⟩ (.int .u8 ((x : Int) / 2 ^ (8 * k) % 256))) g 5 (splice cs (o + P.length - (k + 1)) (P.drop (P.length - (k + 1)))).toArray) := by
        show Blk _ _ _ _
        have h1 := HPl.out
        have h2 := HAt.out k hlt
        rw [← splice_step cs P o k _ (by omega) (by omega) h2]
        have := hB.out.set_ (o + (n - 1 - k)) (.int .u8 ((x : Int) / 2 ^ (8 * k) % 256))
        rw [List.setIfInBounds_toArray] at this
        rw [h1]
        rwa [h1] at this
      obtain ⟨v0, c0⟩ : ∃ v, wr.cell? ⟨g, o + (n - 1 - k), none⟩ = some v := by
        rw [hB.out.cell]
        exact ⟨_, by rw [List.getElem?_toArray]; exact List.getElem?_eq_getElem (by omega)⟩
      have f0 := hB.out.frozen (o + (n - 1 - k))
      clear hl1
      go_wp2
      go_roundw
      case rel => exact ⟨k + 1, by omega, by go_num, HS, hF.out.setCell (p := ⟨g, o + (n - 1 - k), none⟩) (.inr rfl) _⟩
      case measure => simp [intOf]; omega
    · obtain rfl : k = n := by omega
      go_wp2
      go_end0
      have hfin := hB.out
      rw [HPl.out, Nat.add_sub_cancel, Nat.sub_self, List.drop_zero] at hfin
      exact ⟨rfl, hfin, hF.out⟩

theorem put_any (g o n c : Nat) (t : List UInt8) (x : Nat) (w : World) (hb : Blk w g 5 (bts t).toArray) (ho : o + n ≤ t.length) (hx : x < 18446744073709551616) (hn : n ≤ 8) :
    Calls Tryz.prog 122 #[.slice (some ⟨g, o, none⟩) n c, .int .u64 x] w fun e w' => e = .returned (.tuple #[]) ∧ Blk w' g 5 (bts (splice t o (putB n x))).toArray ∧ Fr (fun b => b = g) w w' := by
  rw [bts_splice]
  exact put_at g o n c (bts t) x w hb (by rw [bts_length]; exact ho) hx hn
end Go.Proofs.YtfapklpcgcgahaaGreatDoor

/-
  CRC: what it computes, as a function of the bytes.
-/
namespace Go.Proofs.YtfapklpcgcgahaaGreatDoor
set_option linter.unusedSimpArgs false
set_option linter.unusedVariables false
open Go.RowKit

theorem xor_u32_range (a b : Int) : 0 ≤ bits .xor .u32 a b ∧ bits .xor .u32 a b < 4294967296 := by
  show 0 ≤ IntKind.u32.wrap _ ∧ IntKind.u32.wrap _ < _
  rw [IntKind.wrap_u32]; omega
theorem and_u32_15 (a : Int) (h0 : 0 ≤ a) (h1 : a < 4294967296) : bits .and .u32 a 15 = a % 16 := by
  show IntKind.u32.wrap ((BitVec.ofInt 32 a &&& BitVec.ofInt 32 15).toNat : Nat) = _
  obtain ⟨n, rfl⟩ := Int.eq_ofNat_of_zero_le h0
  have e1 : (BitVec.ofInt 32 (n : Int)).toNat = n := by rw [BitVec.toNat_ofInt]; omega
  have e2 : (BitVec.ofInt 32 15).toNat = 2 ^ 4 - 1 := by decide
  rw [BitVec.toNat_and, e1, e2, Nat.and_two_pow_sub_one_eq_mod, IntKind.wrap_u32]
  omega

def tstep (y : Int) : Int := bits .xor .u32 (y / 2) (bits .and .u32 3988292384 (-bits .and .u32 y 1 % 4294967296))
def tIter : Nat → Int → Int
  | 0, y => y
  | n + 1, y => tstep (tIter n y)
def tabI (k : Nat) : Int := tIter 4 k
/-- The table, so far. -/
def tabK (k : Nat) : List Value := (List.range 16).map fun i => .int .u32 (if i < k then tabI i else 0)
theorem tabK_get (k i : Nat) (h : i < 16) : (tabK k)[i]? = some (.int .u32 (if i < k then tabI i else 0)) := by
  unfold tabK
  rw [List.getElem?_map, List.getElem?_range h]; rfl
theorem tabK_set (k : Nat) (hk : k < 16) : (tabK k).toArray.setIfInBounds k (.int .u32 (tabI k)) = (tabK (k + 1)).toArray := by
  rw [List.setIfInBounds_toArray]
  congr 1
  apply List.ext_getElem?
  intro i
  have hl : ∀ k, (tabK k).length = 16 := fun k => by simp [tabK]
  rw [List.getElem?_set, hl]
  by_cases h : i < 16
  · rw [tabK_get _ _ h, tabK_get _ _ h]
    by_cases e : k = i
    · subst e; rw [if_pos rfl, if_pos hk, if_pos (by omega)]
    · rw [if_neg e]
      by_cases h2 : i < k
      · rw [if_pos h2, if_pos (by omega)]
      · rw [if_neg h2, if_neg (by omega)]
  · rw [List.getElem?_eq_none (by rw [hl]; omega), List.getElem?_eq_none (by rw [hl]; omega), if_neg (by omega)]

/-- A byte's half. -/
def chalf (w : Int) : Int := bits .xor .u32 (w / 16) (tabI (w % 16).toNat)
def cstep (w : Int) (b : UInt8) : Int := chalf (chalf (bits .xor .u32 w b.toNat))
def crcI (l : List UInt8) : Int := l.foldl cstep 4294967295
theorem crcI_take (l : List UInt8) (k : Nat) (h : k < l.length) : crcI (l.take (k + 1)) = cstep (crcI (l.take k)) l[k] := by
  unfold crcI
  rw [List.take_add_one, List.getElem?_eq_getElem h, Option.toList_some, List.foldl_append]; rfl
theorem crcI_range (l : List UInt8) : 0 ≤ crcI l ∧ crcI l < 4294967296 := by
  rcases List.eq_nil_or_concat l with rfl | ⟨l, c, rfl⟩
  · simp [crcI]
  · rw [List.concat_eq_append]
    unfold crcI
    rw [List.foldl_append]
    exact xor_u32_range _ _

def crcN (l : List UInt8) : Nat := (bits .xor .u32 IntKind.u32.max (crcI l)).toNat
theorem crc_eq (l : List UInt8) : (crcN l : Int) = bits .xor .u32 IntKind.u32.max (crcI l) := Int.toNat_of_nonneg (xor_u32_range _ _).1
theorem crcN_lt (l : List UInt8) : crcN l < 4294967296 := by
  have h1 := crc_eq l
  have h2 := (xor_u32_range IntKind.u32.max (crcI l)).2
  omega

set_option maxHeartbeats 800000 in
set_option maxRecDepth 100000 in
theorem CRC_any (A : Option Addr) (c : Nat) (l : List UInt8) (w : World) (h : BytesIn w A l) (hl : l.length ≤ 4000000000) :
    Calls Tryz.prog 123 #[.slice A l.length c] w fun e w' => e = .returned (.int .u32 (crcN l)) ∧ Fr Nob w w' := by
  have H := Lib.hid h
  clear h
  go_enter Tryz.func123, Tryz.ntmps123
  go_wp2
  have HF0 : Hid (Fr Nob w (w.alloc (.cells (tabK 0).toArray 190))) := (Fr.refl _ w).alloc _
  have HB0 : Hid (Blk (w.alloc (.cells (tabK 0).toArray 190)) w.heap.size 190 (tabK 0).toArray) := Blk.new w _ _
  obtain ⟨g, hg⟩ : ∃ g, w.heap.size = g := ⟨_, rfl⟩
  have HG : Hid (w.heap.size ≤ g) := Nat.le_of_eq hg
  rw [hg] at HB0
  rw [hg]
  clear hg
  go_loopw [4, 5, 9] (fun _ _ i wr => ∃ (k : Nat), k ≤ 16 ∧ i = .int .i64 k ∧ Hid (Blk wr g 190 (tabK k).toArray) ∧ Hid (Fr Nob w wr)) (fun _ _ i _ => 16 - (intOf i).toNat)
  case atStart => exact ⟨0, by omega, rfl, HB0, HF0⟩
  case round =>
    clear HB0 HF0
    obtain ⟨k, hk, rfl, hB, hF⟩ := hrel
    by_cases hlt : k < 16
    · obtain ⟨v0, c0⟩ : ∃ v, wr.cell? ⟨g, k, none⟩ = some v := by
        rw [hB.out.cell, List.getElem?_toArray]; exact ⟨_, tabK_get k k hlt⟩
      have f0 := hB.out.frozen k
      have HS : Hid (Blk (wr.setCell ⟨g, k, none⟩ (.int .u32 (tabI k))) g 190 (tabK (k + 1)).toArray) := by
        show Blk _ _ _ _
        rw [← tabK_set k hlt]
        exact hB.out.set_ _ _
      have HF : Hid (Fr Nob w (wr.setCell ⟨g, k, none⟩ (.int .u32 (tabI k)))) := hF.out.setCell (p := ⟨g, k, none⟩) (.inl HG.out) _
      go_wp2
      obtain ⟨wo, hwo⟩ : ∃ wo : World, wo = wr := ⟨_, rfl⟩
      rw [← hwo] at c0 f0 HS HF
      go_loopw [5, 14] (fun x i wr => ∃ (j : Nat), j ≤ 4 ∧ i = .int .i64 j ∧ x = .int .u32 (tIter j k) ∧ wo = wr) (fun _ i _ => 4 - (intOf i).toNat)
      case atStart => exact ⟨0, by omega, rfl, rfl, hwo⟩
      case round =>
        clear hwo
        obtain ⟨j, hj, rfl, rfl, hwr⟩ := hrel
        subst hwr
        by_cases hlj : j < 4
        · have HT : Hid (bits .xor .u32 (tIter j k / 2) (bits .and .u32 3988292384 (-bits .and .u32 (tIter j k) 1 % 4294967296)) = tIter (j + 1) k) := rfl
          generalize tIter j k = y at *
          go_wp2
          go_roundw
          case rel => exact ⟨j + 1, by omega, by go_num, by rw [HT.out], by trivial⟩
          case measure => simp [intOf]; omega
        · obtain rfl : j = 4 := by omega
          have e4 : tIter 4 k = tabI k := rfl
          rw [e4]
          generalize tabI k = y at *
          go_wp2
          go_roundw
          case rel => exact ⟨k + 1, by omega, by go_num, HS, HF⟩
          case measure => simp [intOf]; omega
    · obtain rfl : k = 16 := by omega
      go_wp2
      go_loopw [6, 8, 30] (fun x _ i wr => ∃ (j : Nat), j ≤ l.length ∧ i = .int .i64 j ∧ x = .int .u32 (crcI (l.take j)) ∧ Hid (Blk wr g 190 (tabK 16).toArray) ∧ Hid (Fr Nob w wr)) (fun _ _ i _ => l.length - (intOf i).toNat)
      case atStart => exact ⟨0, by omega, rfl, rfl, hB, hF⟩
      case round =>
        clear hB hF
        obtain ⟨j, hj, rfl, rfl, hB, hF⟩ := hrel
        by_cases hlj : j < l.length
        · obtain ⟨kb, ko, hA, hc⟩ := H.out (by omega)
          subst hA
          have c0 : wr.cell? ⟨kb, ko + j, none⟩ = some (.int .u8 (l[j]).toNat) := by
            have h0 := hc j _ (List.getElem?_eq_getElem hlj)
            exact (hF.out.cell (cell_lt h0) (fun h => h)).trans h0
          clear hc
          have hs := crcI_take l j hlj
          have HS := Lib.hid hs
          have hr := crcI_range (l.take j)
          clear hs
          have hb := UInt8.toNat_lt l[j]
          have HT : Hid (∀ i : Int, 0 ≤ i → i < 16 → wr.cell? ⟨g, i.toNat, none⟩ = some (.int .u32 (tabI i.toNat))) := by
            intro i h0 h1
            rw [hB.out.cell, List.getElem?_toArray, tabK_get _ _ (by omega), if_pos (by omega)]
          generalize l[j] = b at *
          generalize crcI (l.take j) = x at *
          obtain ⟨x1, hx1⟩ : ∃ x1, bits .xor .u32 x b.toNat = x1 := ⟨_, rfl⟩
          have r1 : 0 ≤ x1 ∧ x1 < 4294967296 := by rw [← hx1]; exact xor_u32_range _ _
          have m1 := and_u32_15 x1 r1.1 r1.2
          have t1 := HT.out (x1 % 16) (by omega) (by omega)
          obtain ⟨x2, hx2⟩ : ∃ x2, bits .xor .u32 (x1 / 16) (tabI (x1 % 16).toNat) = x2 := ⟨_, rfl⟩
          have r2 : 0 ≤ x2 ∧ x2 < 4294967296 := by rw [← hx2]; exact xor_u32_range _ _
          have m2 := and_u32_15 x2 r2.1 r2.2
          have t2 := HT.out (x2 % 16) (by omega) (by omega)
          have HE : Hid (bits .xor .u32 (x2 / 16) (tabI (x2 % 16).toNat) = crcI (l.take (j + 1))) := by
            show _ = _
            rw [HS.out]
            unfold cstep chalf
            rw [hx1, hx2]
          clear HS
          go_wp2
          go_roundw
          case rel => exact ⟨j + 1, by omega, by go_num, by rw [HE.out], hB, hF⟩
          case measure => simp [intOf]; omega
        · obtain rfl : j = l.length := by omega
          rw [List.take_length]
          go_wp2
          go_ret
          exact ⟨by rw [crc_eq l]; rfl, hF.out⟩
end Go.Proofs.YtfapklpcgcgahaaGreatDoor

/-
  The bytes of a sector and of a head of a log.
-/
namespace Go.Proofs.YtfapklpcgcgahaaGreatDoor
set_option linter.unusedSimpArgs false
set_option linter.unusedVariables false
open Go.RowKit

def sectA (no : Nat) : List UInt8 := splice (zeros 64) 0 (putB 5 no)
theorem sectA_length (no : Nat) : (sectA no).length = 64 := by
  unfold sectA; rw [length_splice _ _ _ (by rw [putB_length, zeros_length]; omega), zeros_length]
def sectL (no life : Nat) : List UInt8 := splice (sectA no) 5 (putB 6 life)
theorem sectL_length (no life : Nat) : (sectL no life).length = 64 := by
  unfold sectL; rw [length_splice _ _ _ (by rw [putB_length, sectA_length]; omega), sectA_length]
def sectN (no life n : Nat) : List UInt8 := (sectL no life).set 11 (UInt8.ofNat n)
theorem sectN_length (no life n : Nat) : (sectN no life n).length = 64 := by
  unfold sectN; rw [List.length_set, sectL_length]
/-- A sector's bytes ahead of its sum, and with it. -/
def sectPre (no life : Nat) (b : List UInt8) : List UInt8 := splice (sectN no life b.length) 16 b
def sectB (no life : Nat) (b : List UInt8) : List UInt8 := splice (sectPre no life b) 12 (putB 4 (crcN (sectPre no life b)))
theorem sectPre_length (no life : Nat) (b : List UInt8) (h : b.length ≤ 48) : (sectPre no life b).length = 64 := by
  unfold sectPre; rw [length_splice _ _ _ (by rw [sectN_length]; omega), sectN_length]
theorem sectB_length (no life : Nat) (b : List UInt8) (h : b.length ≤ 48) : (sectB no life b).length = 64 := by
  unfold sectB
  rw [length_splice _ _ _ (by rw [sectPre_length _ _ _ h, putB_length]; omega), sectPre_length _ _ _ h]
theorem crc64 {w : World} {g : Nat} {t : List UInt8} (h : Blk w g 5 (bts t).toArray) (hl : t.length = 64) :
    Calls Tryz.prog 123 #[.slice (some ⟨g, 0, none⟩) 64 64] w fun e w' => e = .returned (.int .u32 (crcN t)) ∧ Fr Nob w w' := by
  have := CRC_any (some ⟨g, 0, none⟩) 64 t w (bytesIn_of h) (by omega)
  rwa [hl] at this

set_option maxHeartbeats 800000 in
set_option maxRecDepth 100000 in
theorem sector_any (no life : Nat) (A : Option Addr) (c : Nat) (b : List UInt8) (w : World) (h : BytesIn w A b) (hl : b.length ≤ 48) (hno : no < 18446744073709551616) (hlife : life < 18446744073709551616) :
    Calls Tryz.prog 88 #[.int .u64 no, .int .u64 life, .slice A b.length c] w fun e w' => e = .returned (.slice (some ⟨w.heap.size, 0, none⟩) 64 64) ∧ Blk w' w.heap.size 5 (bts (sectB no life b)).toArray ∧ Fr Nob w w' := by
  have hmk := make64
  have H := Lib.hid h
  clear h
  go_enter Tryz.func88, Tryz.ntmps88
  go_wp2_with fail
  have HB0 : Hid (Blk (w.alloc (.cells zeros64 5)) w.heap.size 5 (bts (zeros 64)).toArray) := by
    show Blk _ _ _ _
    rw [show (bts (zeros 64)).toArray = zeros64 from zeros64_eq.symm]; exact Blk.new w _ _
  have HF0 : Hid (Fr Nob w (w.alloc (.cells zeros64 5))) := (Fr.refl _ w).alloc _
  refine (put_any w.heap.size 0 5 64 (zeros 64) no _ HB0.out (by simp [zeros]) hno (by omega)).mono ?_
  rintro e w1 ⟨rfl, hb1, hf1⟩
  have HB1 : Hid (Blk w1 w.heap.size 5 (bts (sectA no)).toArray) := hb1
  have HF1 : Hid (Fr Nob w w1) := HF0.out.step hf1 (fun i hi e => by omega)
  clear hb1 hf1
  go_wp2_with fail
  refine (put_any w.heap.size 5 6 59 (sectA no) life _ HB1.out (by rw [sectA_length]; omega) hlife (by omega)).mono ?_
  rintro e w2 ⟨rfl, hb2, hf2⟩
  have HB2 : Hid (Blk w2 w.heap.size 5 (bts (sectL no life)).toArray) := hb2
  have HF2 : Hid (Fr Nob w w2) := HF1.out.step hf2 (fun i hi e => by omega)
  clear hb2 hf2
  have hz2 := HB2.out.lt
  have hz : w.heap.size ≤ w2.heap.size := HF2.out.size
  obtain ⟨g, hg⟩ : ∃ g, w.heap.size = g := ⟨_, rfl⟩
  have HG : Hid (w.heap.size ≤ g) := Nat.le_of_eq hg
  have HGe := Lib.hid hg
  rw [hg] at HB2 hz2 ⊢
  have HH : Hid (Blk (w2.setCell ⟨g, 11, none⟩ (.int .u8 (UInt8.ofNat b.length).toNat)) g 5 (bts (sectN no life b.length)).toArray) := by
    show Blk _ _ _ _
    unfold sectN
    rw [← bts_set]
    exact HB2.out.set_ 11 _
  have hbl : ((UInt8.ofNat b.length).toNat : Int) = b.length := by simp; omega
  rw [hbl] at HH
  have HF3 : Hid (Fr Nob w (w2.setCell ⟨g, 11, none⟩ (.int .u8 b.length))) := HF2.out.setCell (p := ⟨g, 11, none⟩) (.inl HG.out) _
  obtain ⟨v0, c11⟩ : ∃ v, w2.cell? ⟨g, 11, none⟩ = some v := by
    rw [HB2.out.cell]
    exact ⟨_, by rw [List.getElem?_toArray]; exact List.getElem?_eq_getElem (by rw [bts_length, sectL_length]; omega)⟩
  have f11 := HB2.out.frozen 11
  clear hg hbl HB0 HF0 HB1 HF1 HB2
  have hinf : (Tryz.prog.info? 5).map (·.size) = some 1 := by kernel_rfl
  have hsrc : Hid (0 < (bts b).length → ∃ ad, A = some ad ∧ ∀ j v, (bts b)[j]? = some v → (w2.setCell ⟨g, 11, none⟩ (.int .u8 b.length)).cell? (ad.add j) = some v) := by
    intro h0
    obtain ⟨kb, ko, e, hc⟩ := H.out (by rw [bts_length] at h0; exact h0)
    refine ⟨_, e, fun j v hv => ?_⟩
    rw [show (⟨kb, ko, none⟩ : Addr).add j = ⟨kb, ko + j, none⟩ from by simp [Addr.add]]
    rw [bts_get] at hv
    cases hb : b[j]? with
    | none => rw [hb] at hv; cases hv
    | some x =>
      rw [hb] at hv
      injection hv with hv
      subst hv
      have h1 := hc j x hb
      exact (HF3.out.cell (p := ⟨kb, ko + j, none⟩) (cell_lt h1) (fun h => h)).trans h1
  have hn : Hid ((bts b).length = Nat.min b.length 48) := by show _ = _; rw [bts_length]; exact (Nat.min_eq_left hl).symm
  have hfit : Hid (16 + (bts b).length ≤ (bts (sectN no life b.length)).length) := by show _ ≤ _; rw [bts_length, bts_length, sectN_length]; omega
  have HHe : Hid ((w2.setCell ⟨g, 11, none⟩ (.int .u8 b.length)).heap[g]? = some (.cells (bts (sectN no life b.length)).toArray 5 (0, 0))) := HH.out
  go_wp2_with (with_reducible refine wpList_copy_exact rfl (.tmp 23) (.tmp 24) 40 40 rfl 5 Tryz.underlying40 hinf (some ⟨g, 16, none⟩) A 48 48 b.length c rfl rfl g 16 (bts (sectN no life b.length)) 5 HHe.out (bts b) hn.out (fun h => ⟨rfl, hsrc.out h⟩) hfit.out (bts_one b) ?_; intro w4 hg4 hgr4; have HG4 := Lib.hid hg4; have HR4 := Lib.hid hgr4; clear hg4 hgr4)
  have HB4 : Hid (Blk w4 g 5 (bts (sectPre no life b)).toArray) := by
    show Blk _ _ _ _
    have := HG4.out
    rwa [← bts_splice] at this
  have HF4 : Hid (Fr Nob w w4) := HF3.out.grown HR4.out (fun k hk => .inl (by injection hk with hk; rw [← hk]; exact HG.out))
  have hl4 := sectPre_length no life b hl
  have hcr := crcN_lt (sectPre no life b)
  have HQ : Hid (splice (sectPre no life b) 12 (putB 4 (crcN (sectPre no life b))) = sectB no life b) := rfl
  clear HG4 HR4 HH HHe HF3 hsrc hn hfit c11 f11
  have HL4 := Lib.hid hl4
  clear hl4
  generalize sectPre no life b = t at *
  refine wp_region_quietly (fun W => Fr Nob w W) (by kernel_rfl) ?_
  have hS : Fr Nob w w4.drew := HF4.out.drew
  refine wpAnyH_op (i := 0) (some 26) (v := ?v0) (a' := ?a0) rfl rfl (by kernel_rfl) (by kernel_rfl) (by kernel_rfl) (fun _ _ _ h => h) rfl (fun wz hwz => ?h0) ?b0 hS ?_
  case h0 => (go_simp; try with_reducible rfl)
  case b0 => (simp only [Act.put, List.setIfInBounds_toArray, List.set_cons_zero, List.set_cons_succ]; rfl)
  refine wpAnyH_op (i := 1) (some 27) (v := ?v1) (a' := ?a1) rfl rfl (by kernel_rfl) (by kernel_rfl) (by kernel_rfl) (fun _ _ _ h => h) rfl (fun wz hwz => ?h1) ?b1 hS ?_
  case h1 => (go_simp; try with_reducible rfl)
  case b1 => (simp only [Act.put, List.setIfInBounds_toArray, List.set_cons_zero, List.set_cons_succ]; rfl)
  refine wpAnyH_op (i := 2) (some 28) (v := ?v2) (a' := ?a2) rfl rfl (by kernel_rfl) (by kernel_rfl) (by kernel_rfl) (fun _ _ _ h => h) rfl (fun wz hwz => ?h2) ?b2 hS ?_
  case h2 => (go_simp; try with_reducible rfl)
  case b2 => (simp only [Act.put, List.setIfInBounds_toArray, List.set_cons_zero, List.set_cons_succ]; rfl)
  refine wpAnyH_call (i := 3) rfl (by kernel_rfl) rfl ?run3 (crc64 HB4.out.drew HL4.out) ?_
  case run3 => go_simp
  rintro e w5 ⟨rfl, hf5⟩
  have hS5 : Fr Nob w w5 := hS.trans hf5
  have HB5 : Hid (Blk w5 g 5 (bts t).toArray) := HB4.out.drew.fr hf5 (fun h => h)
  clear hf5
  refine ⟨_, rfl, hS5, ?_⟩
  refine wpAnyH_at (some 29) (a' := ?a3) rfl ?b3 ?_
  case b3 => (simp only [Act.put, List.setIfInBounds_toArray, List.set_cons_zero, List.set_cons_succ]; rfl)
  refine wpAnyH_op (i := 4) (some 30) (v := (.int .u64 (crcN t : Nat))) (a' := ?a4) rfl rfl (by kernel_rfl) (by kernel_rfl) (by kernel_rfl) (fun _ _ _ h => h) rfl (fun wz hwz => ?h4) ?b4 hS5 ?_
  case h4 => (have hcr2 := wrap_nat (n := crcN t) (by omega); go_simp; try with_reducible rfl)
  case b4 => (simp only [Act.put, List.setIfInBounds_toArray, List.set_cons_zero, List.set_cons_succ]; rfl)
  refine wpAnyH_call (i := 5) rfl (by kernel_rfl) rfl ?run5 (put_any g 12 4 52 t (crcN t) w5 HB5.out (by rw [HL4.out]; omega) (by omega) (by omega)) ?_
  case run5 => go_simp
  rintro e w6 ⟨rfl, hb6, hf6⟩
  have hS6 : Fr Nob w w6 := hS5.step hf6 (fun i hi e => by have := HG.out; omega)
  rw [HQ.out] at hb6
  have HB6 := Lib.hid hb6
  clear hb6 hf6
  refine ⟨_, rfl, hS6, ?_⟩
  refine wpAnyH_at (some 31) (a' := ?a5) rfl ?b5 ?_
  case b5 => (simp only [Act.put, List.setIfInBounds_toArray, List.set_cons_zero, List.set_cons_succ]; rfl)
  refine wpAnyH_done (by kernel_rfl) ?_ _
  dsimp only [OnlyNormal]
  go_wp2
  go_ret
  rw [HGe.out]
  exact ⟨rfl, HB6.out, hS6⟩
end Go.Proofs.YtfapklpcgcgahaaGreatDoor
