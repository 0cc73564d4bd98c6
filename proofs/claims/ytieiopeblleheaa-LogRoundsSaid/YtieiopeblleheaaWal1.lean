/-
  Numbers as bytes: get, put.
-/
import Derived.Test.YtieiopeblleheaaProg
import Derived.Test.YtieiopeblleheaaBase
import Derived.Laws.CopyOwn
import Derived.WalkKit
import Derived.WalkSpells
import Derived.WalkLawsBesides
namespace Go.Proofs.Ytieiopeblleheaa
set_option linter.unusedSimpArgs false
set_option linter.unusedVariables false
open Go.RowKit

/-- A row of bytes that can be read. -/
def BytesIn (w : World) (A : Option Addr) (l : List UInt8) : Prop := 0 < l.length → ∃ g o, A = some ⟨g, o, none⟩ ∧ ∀ (j : Nat) x, l[j]? = some x → w.cell? ⟨g, o + j, none⟩ = some (.int .u8 x.toNat)

theorem wrap_u64' (x : Int) : IntKind.u64.wrap x = x % 18446744073709551616 := by
  simp [IntKind.wrap, IntKind.signed, IntKind.bits]
/-- One byte more. -/
theorem or_byte (y b : Nat) (hb : b < 256) : bits .or .u64 (IntKind.u64.wrap ((y : Int) * 256)) (IntKind.u64.wrap (b : Int)) = (((y * 256 + b) % 18446744073709551616 : Nat) : Int) := by
  have e1 : IntKind.u64.wrap ((y : Int) * 256) = ((y % 72057594037927936 * 256 : Nat) : Int) := by rw [wrap_u64']; omega
  have e2 : IntKind.u64.wrap (b : Int) = (b : Int) := by rw [wrap_u64']; omega
  rw [e1, e2]
  show IntKind.u64.wrap (((BitVec.ofInt 64 ((y % 72057594037927936 * 256 : Nat) : Int) ||| BitVec.ofInt 64 (b : Int)).toNat : Nat) : Int) = _
  have h1 : (BitVec.ofInt 64 ((y % 72057594037927936 * 256 : Nat) : Int)).toNat = y % 72057594037927936 * 256 := by
    rw [BitVec.toNat_ofInt]; omega
  have h2 : (BitVec.ofInt 64 (b : Int)).toNat = b := by rw [BitVec.toNat_ofInt]; omega
  rw [BitVec.toNat_or, h1, h2]
  have h3 : y % 72057594037927936 * 256 ||| b = y % 72057594037927936 * 256 + b := by
    have := Nat.shiftLeft_add_eq_or_of_lt (b := b) (i := 8) (by omega) (y % 72057594037927936)
    rw [Nat.shiftLeft_eq] at this
    exact this.symm
  rw [h3, wrap_u64']
  omega
def getN (l : List UInt8) : Nat := l.foldl (fun x c => (x * 256 + c.toNat) % 18446744073709551616) 0
theorem getN_snoc (l : List UInt8) (c : UInt8) : getN (l ++ [c]) = (getN l * 256 + c.toNat) % 18446744073709551616 := by simp [getN]
theorem getN_lt (l : List UInt8) : getN l < 18446744073709551616 := by
  rcases List.eq_nil_or_concat l with rfl | ⟨l, c, rfl⟩
  · simp [getN]
  · rw [List.concat_eq_append, getN_snoc]; omega
theorem getN_take (l : List UInt8) (k : Nat) (h : k < l.length) : getN (l.take (k + 1)) = (getN (l.take k) * 256 + l[k].toNat) % 18446744073709551616 := by
  rw [← getN_snoc, List.take_add_one, List.getElem?_eq_getElem h]; rfl

set_option maxRecDepth 100000 in
theorem get_any (A : Option Addr) (c : Nat) (l : List UInt8) (w : World) (h : BytesIn w A l) (hl : l.length ≤ 4000000000) :
    Calls Try.prog 62 #[.slice A l.length c] w fun e w' => e = .returned (.int .u64 (getN l)) ∧ w = w' := by
  have H := Lib.hid h
  clear h
  go_enter Try.func62, Try.ntmps62
  go_wp2
  go_loopw [3, 5, 8] (fun x _ i wr => ∃ k : Nat, k ≤ l.length ∧ i = .int .i64 k ∧ x = .int .u64 (getN (l.take k)) ∧ w = wr) (fun _ _ i _ => l.length - (intOf i).toNat)
  case atStart => exact ⟨0, by omega, rfl, by simp [getN], rfl⟩
  case round =>
    obtain ⟨k, hk, rfl, rfl, rfl⟩ := hrel
    by_cases hlt : k < l.length
    · obtain ⟨g, o, hA, hc⟩ := H.out (by omega)
      subst hA
      have c0 := hc k _ (List.getElem?_eq_getElem hlt)
      clear hc
      have hs := getN_take l k hlt
      have HS : Hid (bits .or .u64 (IntKind.u64.wrap ((getN (l.take k) : Nat) * 256 : Int)) (IntKind.u64.wrap ((l[k].toNat : Nat) : Int)) = ((getN (l.take (k + 1)) : Nat) : Int)) := by
        show _ = _
        rw [hs]; exact or_byte _ _ (UInt8.toNat_lt _)
      clear hs
      generalize l[k] = b at *
      go_wp2
      go_roundw
      case rel => exact ⟨k + 1, by omega, by go_num, by rw [HS.out], by trivial⟩
      case measure => simp [intOf]; omega
    · obtain rfl : k = l.length := by omega
      rw [List.take_length]
      go_wp2
      go_ret
      exact ⟨rfl, rfl⟩

/-- A number's low bytes, the greatest first. -/
def putB (n : Nat) (x : Nat) : List UInt8 := (List.range n).map fun j => UInt8.ofNat (x / 256 ^ (n - 1 - j) % 256)
theorem putB_length (n x : Nat) : (putB n x).length = n := by simp [putB]

theorem splice_get {α : Type} (L cs : List α) (o i : Nat) (h : o + cs.length ≤ L.length) : (splice L o cs)[i]? = if i < o then L[i]? else if i < o + cs.length then cs[i - o]? else L[i]? := by
  unfold splice
  have hl : (L.take o).length = o := by rw [List.length_take]; omega
  by_cases h1 : i < o
  · rw [if_pos h1, List.getElem?_append_left (by rw [hl]; exact h1), List.getElem?_take_of_lt h1]
  · rw [if_neg h1, List.getElem?_append_right (by rw [hl]; omega), hl]
    by_cases h2 : i < o + cs.length
    · rw [if_pos h2, List.getElem?_append_left (by omega)]
    · rw [if_neg h2, List.getElem?_append_right (by omega), List.getElem?_drop, show o + cs.length + (i - o - cs.length) = i from by omega]
theorem putB_get (n x j : Nat) (h : j < n) : (putB n x)[j]? = some (UInt8.ofNat (x / 256 ^ (n - 1 - j) % 256)) := by
  unfold putB
  rw [List.getElem?_map, List.getElem?_range h]; rfl
/-- One more of the last k of a splice. -/
theorem splice_step {α : Type} (L P : List α) (o k : Nat) (v : α) (hk : k < P.length) (h : o + P.length ≤ L.length) (hv : P[P.length - 1 - k]? = some v) :
    (splice L (o + P.length - k) (P.drop (P.length - k))).set (o + (P.length - 1 - k)) v = splice L (o + P.length - (k + 1)) (P.drop (P.length - (k + 1))) := by
  apply List.ext_getElem?
  intro i
  have e1 : (P.drop (P.length - k)).length = k := by rw [List.length_drop]; omega
  have e2 : (P.drop (P.length - (k + 1))).length = k + 1 := by rw [List.length_drop]; omega
  have f1 : o + P.length - k + (P.drop (P.length - k)).length ≤ L.length := by rw [e1]; omega
  have f2 : o + P.length - (k + 1) + (P.drop (P.length - (k + 1))).length ≤ L.length := by rw [e2]; omega
  rw [List.getElem?_set, splice_get _ _ _ _ f2, splice_get _ _ _ _ f1, length_splice _ _ _ f1, e1, e2]
  by_cases hi : o + (P.length - 1 - k) = i
  · subst hi
    rw [if_pos rfl, if_pos (by omega), if_neg (by omega), if_pos (by omega), List.getElem?_drop, ← hv]
    congr 1
    omega
  · rw [if_neg hi]
    by_cases h1 : i < o + P.length - (k + 1)
    · rw [if_pos (by omega), if_pos h1]
    · by_cases h2 : i < o + P.length
      · rw [if_neg (by omega), if_pos (by omega), if_neg h1, if_pos (by omega), List.getElem?_drop, List.getElem?_drop]
        congr 1
        omega
      · rw [if_neg (by omega), if_neg (by omega), if_neg h1, if_neg (by omega)]
theorem putB_at (n x k : Nat) (hk : k < n) : (bts (putB n x))[(bts (putB n x)).length - 1 - k]? = some (.int .u8 ((x : Int) / 2 ^ (8 * k) % 256)) := by
  rw [bts_length, putB_length, bts_get, putB_get _ _ _ (by omega), show n - 1 - (n - 1 - k) = k from by omega]
  have h256 : (2 : Nat) ^ (8 * k) = 256 ^ k := by rw [Nat.pow_mul]
  have hv : (x : Int) / 2 ^ (8 * k) % 256 = (((x / 256 ^ k % 256 : Nat)) : Int) := by
    rw [← h256]; simp
  rw [hv]
  simp
theorem bts_splice (L cs : List UInt8) (o : Nat) : bts (splice L o cs) = splice (bts L) o (bts cs) := by
  simp [splice, bts, List.map_take, List.map_drop]

set_option maxRecDepth 100000 in
theorem put_at (g o n c : Nat) (cs : List Value) (x : Nat) (w : World) (hb : Blk w g 5 cs.toArray) (ho : o + n ≤ cs.length) (hx : x < 18446744073709551616) (hn : n ≤ 8) :
    Calls Try.prog 70 #[.slice (some ⟨g, o, none⟩) n c, .int .u64 x] w fun e w' => e = .returned (.tuple #[]) ∧ Blk w' g 5 (splice cs o (bts (putB n x))).toArray ∧ Fr (fun b => b = g) w w' := by
  obtain ⟨P, hP⟩ : ∃ P, bts (putB n x) = P := ⟨_, rfl⟩
  have hat := fun k hk => putB_at n x k hk
  have hPl : P.length = n := by rw [← hP, bts_length, putB_length]
  rw [hP] at hat ⊢
  have H : Hid (Blk w g 5 (splice cs (o + P.length - 0) (P.drop (P.length - 0))).toArray) := by
    show Blk _ _ _ _
    rw [Nat.sub_zero, Nat.sub_zero, List.drop_length]
    unfold splice
    rw [List.length_nil, Nat.add_zero, List.nil_append, List.take_append_drop]; exact hb
  have HAt := Lib.hid hat
  have HPl := Lib.hid hPl
  clear hb hat hP hPl
  go_enter Try.func70, Try.ntmps70
  go_wp2
  go_loopw [4, 7] (fun _ i wr => ∃ k : Nat, k ≤ n ∧ i = .int .i64 k ∧ Hid (Blk wr g 5 (splice cs (o + P.length - k) (P.drop (P.length - k))).toArray) ∧ Hid (Fr (fun b => b = g) w wr)) (fun _ i _ => n - (intOf i).toNat)
  case atStart => exact ⟨0, by omega, rfl, H, Fr.refl _ _⟩
  case round =>
    clear H
    obtain ⟨k, hk, rfl, hB, hF⟩ := hrel
    by_cases hlt : k < n
    · have hl1 : (splice cs (o + P.length - k) (P.drop (P.length - k))).length = cs.length := by
        have := HPl.out
        exact length_splice _ _ _ (by rw [List.length_drop]; omega)
      have HS : Hid (Blk (wr.setCell ⟨g, o + (n - 1 - k), none⟩ (.int .u8 ((x : Int) / 2 ^ (8 * k) % 256))) g 5 (splice cs (o + P.length - (k + 1)) (P.drop (P.length - (k + 1)))).toArray) := by
        show Blk _ _ _ _
        have h1 := HPl.out
        have h2 := HAt.out k hlt
        rw [← splice_step cs P o k _ (by omega) (by omega) h2]
        have := hB.out.set_ (o + (n - 1 - k)) (.int .u8 ((x : Int) / 2 ^ (8 * k) % 256))
        rw [List.setIfInBounds_toArray] at this
        rw [h1]
        rwa [h1] at this
      obtain ⟨v0, c0⟩ : ∃ v, wr.cell? ⟨g, o + (n - 1 - k), none⟩ = some v := by
        rw [hB.out.cell]
        exact ⟨_, by rw [List.getElem?_toArray]; exact List.getElem?_eq_getElem (by omega)⟩
      have f0 := hB.out.frozen (o + (n - 1 - k))
      clear hl1
      go_wp2
      go_roundw
      case rel => exact ⟨k + 1, by omega, by go_num, HS, hF.out.setCell (p := ⟨g, o + (n - 1 - k), none⟩) (.inr rfl) _⟩
      case measure => simp [intOf]; omega
    · obtain rfl : k = n := by omega
      go_wp2
      go_end0
      have hfin := hB.out
      rw [HPl.out, Nat.add_sub_cancel, Nat.sub_self, List.drop_zero] at hfin
      exact ⟨rfl, hfin, hF.out⟩

theorem put_any (g o n c : Nat) (t : List UInt8) (x : Nat) (w : World) (hb : Blk w g 5 (bts t).toArray) (ho : o + n ≤ t.length) (hx : x < 18446744073709551616) (hn : n ≤ 8) :
    Calls Try.prog 70 #[.slice (some ⟨g, o, none⟩) n c, .int .u64 x] w fun e w' => e = .returned (.tuple #[]) ∧ Blk w' g 5 (bts (splice t o (putB n x))).toArray ∧ Fr (fun b => b = g) w w' := by
  rw [bts_splice]
  exact put_at g o n c (bts t) x w hb (by rw [bts_length]; exact ho) hx hn
end Go.Proofs.Ytieiopeblleheaa
