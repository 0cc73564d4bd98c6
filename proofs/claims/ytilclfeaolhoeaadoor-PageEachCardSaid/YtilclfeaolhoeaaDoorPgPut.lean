/-
  Numbers as bytes, in the package page: get, put.
-/
import Derived.Test.YtilclfeaolhoeaaDoorNum0
import Derived.WalkKit
import Derived.WalkSpells
import Derived.WalkLawsBesides
namespace Go.Proofs.YtilclfeaolhoeaaDoor
set_option linter.unusedSimpArgs false
set_option linter.unusedVariables false
open Go.RowKit

set_option maxRecDepth 100000 in
theorem pgGet_any (A : Option Addr) (c : Nat) (l : List UInt8) (w : World) (h : BytesIn w A l) (hl : l.length ≤ 4000000000) :
    Calls Tryd.prog 38 #[.slice A l.length c] w fun e w' => e = .returned (.int .u64 (getN l)) ∧ w = w' := by
  have H := Lib.hid h
  clear h
  go_enter Tryd.func38, Tryd.ntmps38
  go_wp2
  go_loopw [3, 5, 8] (fun x _ i wr => ∃ k : Nat, k ≤ l.length ∧ i = .int .i64 k ∧ x = .int .u64 (getN (l.take k)) ∧ w = wr) (fun _ _ i _ => l.length - (intOf i).toNat)
  case atStart => exact ⟨0, by omega, rfl, by simp [getN], rfl⟩
  case round =>
    obtain ⟨k, hk, rfl, rfl, rfl⟩ := hrel
    by_cases hlt : k < l.length
    · obtain ⟨g, o, hA, hc⟩ := H.out (by omega)
      subst hA
      have c0 := hc k _ (List.getElem?_eq_getElem hlt)
      clear hc
      have hs := getN_take l k hlt
      have HS : Hid (bits .or .u64 (IntKind.u64.wrap ((getN (l.take k) : Nat) * 256 : Int)) (IntKind.u64.wrap ((l[k].toNat : Nat) : Int)) = ((getN (l.take (k + 1)) : Nat) : Int)) := by
        show _ = _
        rw [hs]; exact or_byte _ _ (UInt8.toNat_lt _)
      clear hs
      generalize l[k] = b at *
      go_wp2
      go_roundw
      case rel => exact ⟨k + 1, by omega, by go_num, by rw [HS.out], by trivial⟩
      case measure => simp [intOf]; omega
    · obtain rfl : k = l.length := by omega
      rw [List.take_length]
      go_wp2
      go_ret
      exact ⟨rfl, rfl⟩

set_option maxRecDepth 100000 in
theorem pgPut_at (g o n c : Nat) (cs : List Value) (x : Nat) (w : World) (hb : Blk w g 5 cs.toArray) (ho : o + n ≤ cs.length) (hx : x < 18446744073709551616) (hn : n ≤ 8) :
    Calls Tryd.prog 30 #[.slice (some ⟨g, o, none⟩) n c, .int .u64 x] w fun e w' => e = .returned (.tuple #[]) ∧ Blk w' g 5 (splice cs o (bts (putB n x))).toArray ∧ Fr (fun b => b = g) w w' := by
  obtain ⟨P, hP⟩ : ∃ P, bts (putB n x) = P := ⟨_, rfl⟩
  have hat := fun k hk => putB_at n x k hk
  have hPl : P.length = n := by rw [← hP, bts_length, putB_length]
  rw [hP] at hat ⊢
  have H : Hid (Blk w g 5 (splice cs (o + P.length - 0) (P.drop (P.length - 0))).toArray) := by
    show Blk _ _ _ _
    rw [Nat.sub_zero, Nat.sub_zero, List.drop_length]
    unfold splice
    rw [List.length_nil, Nat.add_zero, List.nil_append, List.take_append_drop]; exact hb
  have HAt := Lib.hid hat
  have HPl := Lib.hid hPl
  clear hb hat hP hPl
  go_enter Tryd.func30, Tryd.ntmps30
  go_wp2
  go_loopw [4, 7] (fun _ i wr => ∃ k : Nat, k ≤ n ∧ i = .int .i64 k ∧ Hid (Blk wr g 5 (splice cs (o + P.length - k) (P.drop (P.length - k))).toArray) ∧ Hid (Fr (fun b => b = g) w wr)) (fun _ i _ => n - (intOf i).toNat)
  case atStart => exact ⟨0, by omega, rfl, H, Fr.refl _ _⟩
  case round =>
    clear H
    obtain ⟨k, hk, rfl, hB, hF⟩ := hrel
    by_cases hlt : k < n
    · have hl1 : (splice cs (o + P.length - k) (P.drop (P.length - k))).length = cs.length := by
        have := HPl.out
        exact length_splice _ _ _ (by rw [List.length_drop]; omega)
      have HS : Hid (Blk (wr.setCell ⟨g, o + (n - 1 - k), none⟩ (.int .u8 ((x : Int) / 2 ^ (8 * k) % 256))) g 5 (splice cs (o + P.length - (k + 1)) (P.drop (P.length - (k + 1)))).toArray) := by
        show Blk _ _ _ _
        have h1 := HPl.out
        have h2 := HAt.out k hlt
        rw [← splice_step cs P o k _ (by omega) (by omega) h2]
        have := hB.out.set_ (o + (n - 1 - k)) (.int .u8 ((x : Int) / 2 ^ (8 * k) % 256))
        rw [List.setIfInBounds_toArray] at this
        rw [h1]
        rwa [h1] at this
      obtain ⟨v0, c0⟩ : ∃ v, wr.cell? ⟨g, o + (n - 1 - k), none⟩ = some v := by
        rw [hB.out.cell]
        exact ⟨_, by rw [List.getElem?_toArray]; exact List.getElem?_eq_getElem (by omega)⟩
      have f0 := hB.out.frozen (o + (n - 1 - k))
      clear hl1
      go_wp2
      go_roundw
      case rel => exact ⟨k + 1, by omega, by go_num, HS, hF.out.setCell (p := ⟨g, o + (n - 1 - k), none⟩) (.inr rfl) _⟩
      case measure => simp [intOf]; omega
    · obtain rfl : k = n := by omega
      go_wp2
      go_end0
      have hfin := hB.out
      rw [HPl.out, Nat.add_sub_cancel, Nat.sub_self, List.drop_zero] at hfin
      exact ⟨rfl, hfin, hF.out⟩

theorem pgPut_any (g o n c : Nat) (t : List UInt8) (x : Nat) (w : World) (hb : Blk w g 5 (bts t).toArray) (ho : o + n ≤ t.length) (hx : x < 18446744073709551616) (hn : n ≤ 8) :
    Calls Tryd.prog 30 #[.slice (some ⟨g, o, none⟩) n c, .int .u64 x] w fun e w' => e = .returned (.tuple #[]) ∧ Blk w' g 5 (bts (splice t o (putB n x))).toArray ∧ Fr (fun b => b = g) w w' := by
  rw [bts_splice]
  exact pgPut_at g o n c (bts t) x w hb (by rw [bts_length]; exact ho) hx hn
end Go.Proofs.YtilclfeaolhoeaaDoor
