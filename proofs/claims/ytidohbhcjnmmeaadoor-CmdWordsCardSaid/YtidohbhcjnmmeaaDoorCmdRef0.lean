/-
  The reference's words and numbers of a line.
-/
import Derived.Test.YtidohbhcjnmmeaaDoorCmdSpl
import Derived.Test.YtidohbhcjnmmeaaDoorCmd7
import Derived.Test.YtidohbhcjnmmeaaDoorCmdNum
namespace Go.Proofs.YtidohbhcjnmmeaaDoor
set_option linter.unusedSimpArgs false
set_option linter.unusedVariables false
open Go.RowKit

def strs (l : List (List UInt8)) : List Value := l.map fun x => .string (tx x)
theorem strs_length (l : List (List UInt8)) : (strs l).length = l.length := by simp [strs]
theorem strs_append (a b : List (List UInt8)) : strs (a ++ b) = strs a ++ strs b := by simp [strs]
theorem strs_get (s : List (List UInt8)) (i : Nat) : (strs s)[i]? = s[i]?.map fun x => Value.string (tx x) := by simp [strs]
theorem info_str' : (Tryd.prog.info? 9).map (fun i => (i.zero, i.size, i.bytes)) = some (some (.string ⟨#[]⟩), 1, 16) := by kernel_rfl
theorem strIn_row {w : World} {base n : Nat} {v : Value} {l : List (List UInt8)} (h : w.ownsRow base 9 1 v n (strs l)) (hn : n = l.length) : ∃ A c, v = .slice A n c ∧ n ≤ c ∧ StrIn w A l ∧ Sl A n c := by
  rcases h.2 with ⟨e, h1⟩ | ⟨g', cap', cur, e, h1, hh, h2, h3, h4, ht⟩
  · subst e
    exact ⟨none, 0, by rw [h1], by omega, fun h0 => by omega, .inl ⟨rfl, h1, rfl⟩⟩
  · refine ⟨_, cap', e, by omega, fun h0 => ⟨g', 0, rfl, fun j x hx => ?_⟩, .inr ⟨g', rfl⟩⟩
    have hb : (strs l)[j]? = some (.string (tx x)) := by rw [strs_get, hx]; rfl
    rw [← ht, List.getElem?_take] at hb
    split at hb
    · rw [Nat.zero_add, Blk.cell hh j, ← Array.getElem?_toList]; exact hb
    · cases hb
theorem tx_append (a b : List UInt8) : tx a ++ tx b = tx (a ++ b) := by
  apply bs_inj
  unfold bs
  rw [Go.Joins.data_append]
  rfl
theorem tx_extract (l : List UInt8) (i j : Nat) : (tx l).extract i j = tx ((l.drop i).take (j - i)) := by
  apply bs_inj
  unfold bs
  rw [Lib.extract_data]
  rfl
theorem tx_one (l : List UInt8) (i : Nat) (c : UInt8) (h : l[i]? = some c) : (tx l).extract i (i + 1) = tx [c] := by
  rw [tx_extract, Nat.add_sub_cancel_left]
  obtain ⟨hi, rfl⟩ := List.getElem?_eq_some_iff.1 h
  rw [List.drop_eq_getElem_cons hi]
  rfl

/-- The reference's words. -/
def refWords (l : List UInt8) : Option (List (List UInt8)) := if [] ∈ spl l then none else some (spl l)

/-- The reference's number's answer. -/
def NumRes (o : Option Int) (w : World) (e : Ending) (w' : World) : Prop := ∃ n ok, e = .returned (.tuple #[.int .i64 n, .bool ok]) ∧ NumIs o n ok ∧ w' = w
theorem mag_neg (D : List UInt8) : magOf (45 :: D) = D := by simp [magOf]
theorem mag_pos (c : UInt8) (r : List UInt8) (h : c ≠ 45) : magOf (c :: r) = c :: r := by simp [magOf, h]
theorem beq_lit (a : List UInt8) (b : List UInt8) : ((tx a).toList == b) = decide (a = b) := by
  rw [Lib.toList_data]
  show (a == b) = _
  cases h : decide (a = b) with
  | true => exact beq_iff_eq.2 (of_decide_eq_true h)
  | false => exact beq_eq_false_iff_ne.2 (of_decide_eq_false h)
/-- What the loop over the digits decides. -/
structure NumR (l D : List UInt8) (neg : Bool) : Prop where
  no : ¬ (∀ c ∈ D, isDig c) → refNum l = none
  yes : (∀ c ∈ D, isDig c) → refNum l = some (if neg then -(digVal D : Int) else digVal D)
theorem NumR.neg {l D : List UInt8} (h : NumR l D true) (hd : ∀ c ∈ D, isDig c) : refNum l = some (-(digVal D : Int)) := h.yes hd
theorem NumR.pos {l D : List UInt8} (h : NumR l D false) (hd : ∀ c ∈ D, isDig c) : refNum l = some (digVal D : Int) := h.yes hd
theorem numR_of {l D : List UInt8} (neg : Bool) (hm : magOf l = D) (h1 : D ≠ []) (h2 : D.length ≤ 9) (h3 : ¬ (D.head? = some 48 ∧ l ≠ [48])) (h4 : (D.length < l.length) ↔ neg = true) : NumR l D neg := by
  refine ⟨fun h => ?_, fun h => ?_⟩
  · unfold refNum; rw [hm, if_pos (.inr (.inr (.inr h)))]
  · unfold refNum
    rw [hm, if_neg (by rintro (e | e | e | e); exact h1 e; omega; exact h3 e; exact e h)]
    cases neg with
    | true => rw [if_pos (h4.2 rfl)]; rfl
    | false => rw [if_neg (fun e => by cases h4.1 e)]; rfl

set_option maxHeartbeats 3200000 in
set_option maxRecDepth 100000 in
theorem RNumber_neg (D : List UInt8) (w : World) (hs : D.length ≤ 100000) :
    Calls Tryd.prog 24 #[.string (tx (45 :: D))] w fun e w' => NumRes (refNum (45 :: D)) w e w' := by
  obtain ⟨N, hN⟩ : ∃ N, D.length = N := ⟨_, rfl⟩
  have HN := Lib.hid hN
  have hsD : (tx D).size = N := hN
  obtain ⟨l, hl⟩ : ∃ l, 45 :: D = l := ⟨_, rfl⟩
  have hll : l.length = N + 1 := by rw [← hl, ← hN]; rfl
  have hsl : (tx l).size = N + 1 := hll
  have hX0 : ∀ h, (tx l)[0]'h = 45 := by rw [← hl]; exact fun _ => rfl
  have hex : (tx l).extract 1 (N + 1) = tx D := by
    rw [tx_extract, ← hl]
    show tx (D.take (N + 1 - 1)) = _
    rw [Nat.add_sub_cancel, List.take_of_length_le (by omega)]
  have hmg : Hid (magOf l = D) := by show magOf l = D; rw [← hl]; exact mag_neg D
  have hne : Hid (l ≠ [48]) := by show l ≠ [48]; rw [← hl]; simp
  have HLl := Lib.hid hll
  rw [hl]
  rw [hN] at hs
  clear hN hll hl
  have em : ∀ (x : UInt8), (tx D).toList.isEmpty = decide (D = []) := fun _ => by rw [Lib.toList_data]; cases D <;> rfl
  have hem := em 0
  clear em
  go_enter Tryd.func24, Tryd.ntmps24
  by_cases hD : D = []
  · have HNo : Hid (refNum l = none) := by show refNum l = none; unfold refNum; rw [hmg.out, if_pos (.inl hD)]
    have hem' : (tx D).toList.isEmpty = true := by rw [hem]; exact decide_eq_true hD
    clear hem hD
    go_wp2
    go_ret2
    exact ⟨0, false, rfl, ⟨by omega, .inr ⟨rfl, HNo.out⟩⟩, rfl⟩
  · have hem' : (tx D).toList.isEmpty = false := by rw [hem]; exact decide_eq_false hD
    have HD0 := Lib.hid hD
    clear hem
    by_cases h9 : 9 < N
    · have k9 : (9 : Int) < (N : Int) := by omega
      have HNo : Hid (refNum l = none) := by show refNum l = none; unfold refNum; rw [hmg.out, if_pos (.inr (.inl (by rw [HN.out]; exact h9)))]
      clear hD
      go_wp2
      go_ret2
      exact ⟨0, false, rfl, ⟨by omega, .inr ⟨rfl, HNo.out⟩⟩, rfl⟩
    · have k9 : ¬ (9 : Int) < (N : Int) := by omega
      have hN9 : N ≤ 9 := by omega
      have hN1 : 0 < N := by rw [← HN.out]; exact List.length_pos_iff.2 hD
      have hdl : 0 < D.length := by rw [HN.out]; exact hN1
      have hh : D.head? = some D[0] := by rw [List.head?_eq_getElem?, List.getElem?_eq_getElem hdl]
      obtain ⟨x, hx⟩ : ∃ x, D[0] = x := ⟨_, rfl⟩
      have hXD : ∀ h, (tx D)[0]'h = x := fun _ => hx
      rw [hx] at hh
      have HH := Lib.hid hh
      have hbe : ((tx l).toList == [48]) = false := by rw [beq_lit]; exact decide_eq_false hne.out
      clear hD hh hx hdl
      by_cases h48 : x = 48
      · subst h48
        have HNo : Hid (refNum l = none) := by show refNum l = none; unfold refNum; rw [hmg.out, if_pos (.inr (.inr (.inl ⟨HH.out, hne.out⟩)))]
        go_wp2
        go_ret2
        exact ⟨0, false, rfl, ⟨by omega, .inr ⟨rfl, HNo.out⟩⟩, rfl⟩
      · have HR : NumR l D true := numR_of true hmg.out HD0.out (by rw [HN.out]; exact hN9) (fun h => h48 (by have := h.1; rw [HH.out] at this; injection this)) (by rw [HN.out, HLl.out]; simp)
        have kx : ¬ (x.toNat : Int) = 48 := fun e => h48 (UInt8.toNat_inj.1 (show x.toNat = 48 by omega))
        clear h48
        go_wp2
        go_loopw [5, 6] (fun a i wr => ∃ k : Nat, k ≤ N ∧ i = .int .i64 k ∧ a = .int .i64 (digVal (D.take k) : Nat) ∧ Hid (∀ c ∈ D.take k, isDig c) ∧ wr = w) (fun _ i _ => N - (intOf i).toNat)
        case atStart => exact ⟨0, Nat.zero_le _, rfl, rfl, fun c hc => by simp at hc, rfl⟩
        case round =>
          obtain ⟨k, hk, rfl, rfl, hdg, rfl⟩ := hrel
          by_cases hlt : k < N
          · have hkl : k < D.length := by rw [HN.out]; exact hlt
            have htk : D.take (k + 1) = D.take k ++ [D[k]] := (List.take_append_getElem hkl).symm
            have hmem : D[k] ∈ D := List.getElem_mem hkl
            have hdv : digVal (D.take k) < 10 ^ 9 := Nat.lt_of_lt_of_le (digVal_lt _ hdg.out) (Nat.pow_le_pow_right (by decide) (by rw [List.length_take]; omega))
            obtain ⟨v, hv⟩ : ∃ v, digVal (D.take k) = v := ⟨_, rfl⟩
            have HV := Lib.hid hv
            rw [hv] at hdv ⊢
            obtain ⟨x, hx⟩ : ∃ x, D[k] = x := ⟨_, rfl⟩
            have hX : ∀ h, (tx D)[k]'h = x := fun _ => hx
            rw [hx] at htk hmem
            have HTk := Lib.hid htk
            have HMem := Lib.hid hmem
            have hvb : v < 1000000000 := hdv
            clear hdv hv htk hmem hx
            obtain ⟨xn, hxn⟩ : ∃ n, x.toNat = n := ⟨_, rfl⟩
            have hx255 : xn < 256 := by rw [← hxn]; exact x.toNat_lt
            have HXn := Lib.hid hxn
            by_cases hd : 48 ≤ xn ∧ xn ≤ 57
            · obtain ⟨hd1, hd2⟩ := hd
              have k1 : ¬ (xn : Int) < 48 := by omega
              have k2 : ¬ (57 : Int) < (xn : Int) := by omega
              have kw : IntKind.u8.wrap ((xn : Int) - 48) = ((xn - 48 : Nat) : Int) := by rw [IntKind.wrap_u8]; omega
              have km : IntKind.i64.wrap (10 * (v : Int)) = ((10 * v : Nat) : Int) := by rw [IntKind.wrap_i64]; omega
              have ka : IntKind.i64.wrap (((10 * v : Nat) : Int) + ((xn - 48 : Nat) : Int)) = ((10 * v + (xn - 48) : Nat) : Int) := by rw [IntKind.wrap_i64]; omega
              have kc : IntKind.i64.wrap ((xn - 48 : Nat) : Int) = ((xn - 48 : Nat) : Int) := by rw [IntKind.wrap_i64]; omega
              go_wp2
              go_roundw
              case rel => exact ⟨k + 1, by omega, by go_num, by rw [HTk.out, digVal_snoc, HV.out, HXn.out]; exact congrArg (Value.int .i64) (by omega), by rw [HTk.out]; intro c hc; rcases List.mem_append.1 hc with h | h; exact hdg.out c h; rw [List.mem_singleton.1 h]; exact ⟨by rw [HXn.out]; exact hd1, by rw [HXn.out]; exact hd2⟩, trivial⟩
              case measure => simp [intOf]; omega
            · have HNo : Hid (refNum l = none) := HR.no (fun h => by have := h x HMem.out; unfold isDig at this; rw [HXn.out] at this; exact hd this)
              by_cases hd0 : xn < 48
              · have k1 : (xn : Int) < 48 := by omega
                clear hd
                go_wp2
                go_ret2
                exact ⟨0, false, rfl, ⟨by omega, .inr ⟨rfl, HNo.out⟩⟩, rfl⟩
              · have k1 : ¬ (xn : Int) < 48 := by omega
                have k2 : (57 : Int) < (xn : Int) := by omega
                clear hd
                go_wp2
                go_ret2
                exact ⟨0, false, rfl, ⟨by omega, .inr ⟨rfl, HNo.out⟩⟩, rfl⟩
          · obtain rfl : k = N := by omega
            have hall : D.take k = D := List.take_of_length_le (by rw [HN.out]; exact Nat.le_refl _)
            rw [hall] at hdg ⊢
            have hdv : digVal D < 10 ^ 9 := Nat.lt_of_lt_of_le (digVal_lt _ hdg.out) (Nat.pow_le_pow_right (by decide) (by rw [HN.out]; exact hN9))
            obtain ⟨v, hv⟩ : ∃ v, digVal D = v := ⟨_, rfl⟩
            have HV := Lib.hid hv
            rw [hv] at hdv ⊢
            have hvb : v < 1000000000 := hdv
            clear hdv hv hall
            have kn : IntKind.i64.wrap (-(v : Int)) = -(v : Int) := by rw [IntKind.wrap_i64]; omega
            go_wp2
            go_ret2
            exact ⟨-(v : Int), true, rfl, ⟨by omega, .inl ⟨rfl, by rw [HR.neg hdg.out, HV.out]⟩⟩, rfl⟩

set_option maxHeartbeats 3200000 in
set_option maxRecDepth 100000 in
theorem RNumber_pos (D : List UInt8) (w : World) (hs : D.length ≤ 100000) (h45 : D.head? ≠ some 45) :
    Calls Tryd.prog 24 #[.string (tx D)] w fun e w' => NumRes (refNum D) w e w' := by
  obtain ⟨N, hN⟩ : ∃ N, D.length = N := ⟨_, rfl⟩
  have HN := Lib.hid hN
  have hsD : (tx D).size = N := hN
  have hmg : Hid (magOf D = D) := by
    show magOf D = D
    cases D with
    | nil => rfl
    | cons c r => exact mag_pos c r (fun e => h45 (by rw [e]; rfl))
  obtain ⟨l, hl⟩ : ∃ l, D = l := ⟨_, rfl⟩
  have HLD := Lib.hid hl
  have hrl : refNum D = refNum l := by rw [hl]
  rw [hrl]
  clear hrl hl
  rw [hN] at hs
  clear hN
  have hem : (tx D).toList.isEmpty = decide (D = []) := by rw [Lib.toList_data]; cases D <;> rfl
  go_enter Tryd.func24, Tryd.ntmps24
  by_cases hD : D = []
  · have HNo : Hid (refNum l = none) := by show refNum l = none; rw [← HLD.out]; unfold refNum; rw [hmg.out, if_pos (.inl hD)]
    have hem' : (tx D).toList.isEmpty = true := by rw [hem]; exact decide_eq_true hD
    have hN0 : ¬ 0 < N := by rw [← HN.out, hD]; simp
    clear hem hD
    go_wp2
    go_ret2
    exact ⟨0, false, rfl, ⟨by omega, .inr ⟨rfl, HNo.out⟩⟩, rfl⟩
  · have hem' : (tx D).toList.isEmpty = false := by rw [hem]; exact decide_eq_false hD
    have HD0 := Lib.hid hD
    have hN1 : 0 < N := by rw [← HN.out]; exact List.length_pos_iff.2 hD
    have kN1 : (0 : Int) < (N : Int) := by omega
    have hdl : 0 < D.length := by rw [HN.out]; exact hN1
    have hh : D.head? = some D[0] := by rw [List.head?_eq_getElem?, List.getElem?_eq_getElem hdl]
    obtain ⟨x, hx⟩ : ∃ x, D[0] = x := ⟨_, rfl⟩
    have hXD : ∀ h, (tx D)[0]'h = x := fun _ => hx
    rw [hx] at hh
    have HH := Lib.hid hh
    have kx45 : ¬ (x.toNat : Int) = 45 := fun e => h45 (by rw [hh]; congr 1; exact UInt8.toNat_inj.1 (show x.toNat = 45 by omega))
    clear hem hx hh hdl h45
    by_cases h9 : 9 < N
    · have k9 : (9 : Int) < (N : Int) := by omega
      have HNo : Hid (refNum l = none) := by show refNum l = none; rw [← HLD.out]; unfold refNum; rw [hmg.out, if_pos (.inr (.inl (by rw [HN.out]; exact h9)))]
      clear hD
      go_wp2
      go_ret2
      exact ⟨0, false, rfl, ⟨by omega, .inr ⟨rfl, HNo.out⟩⟩, rfl⟩
    · have k9 : ¬ (9 : Int) < (N : Int) := by omega
      have hN9 : N ≤ 9 := by omega
      clear hD
      by_cases h48 : x = 48
      · subst h48
        by_cases h1 : D = [48]
        · have HR : NumR l D false := HLD.out ▸ numR_of false hmg.out HD0.out (by rw [HN.out]; exact hN9) (fun h => h.2 h1) (by simp)
          have hbe : ((tx D).toList == [48]) = true := by rw [beq_lit]; exact decide_eq_true h1
          clear h1
          go_wp2
          go_loopw [5, 6] (fun a i wr => ∃ k : Nat, k ≤ N ∧ i = .int .i64 k ∧ a = .int .i64 (digVal (D.take k) : Nat) ∧ Hid (∀ c ∈ D.take k, isDig c) ∧ wr = w) (fun _ i _ => N - (intOf i).toNat)
          case atStart => exact ⟨0, Nat.zero_le _, rfl, rfl, fun c hc => by simp at hc, rfl⟩
          case round =>
            obtain ⟨k, hk, rfl, rfl, hdg, rfl⟩ := hrel
            by_cases hlt : k < N
            · have hkl : k < D.length := by rw [HN.out]; exact hlt
              have htk : D.take (k + 1) = D.take k ++ [D[k]] := (List.take_append_getElem hkl).symm
              have hmem : D[k] ∈ D := List.getElem_mem hkl
              have hdv : digVal (D.take k) < 10 ^ 9 := Nat.lt_of_lt_of_le (digVal_lt _ hdg.out) (Nat.pow_le_pow_right (by decide) (by rw [List.length_take]; omega))
              obtain ⟨v, hv⟩ : ∃ v, digVal (D.take k) = v := ⟨_, rfl⟩
              have HV := Lib.hid hv
              rw [hv] at hdv ⊢
              obtain ⟨x, hx⟩ : ∃ x, D[k] = x := ⟨_, rfl⟩
              have hX : ∀ h, (tx D)[k]'h = x := fun _ => hx
              rw [hx] at htk hmem
              have HTk := Lib.hid htk
              have HMem := Lib.hid hmem
              have hvb : v < 1000000000 := hdv
              clear hdv hv htk hmem hx
              obtain ⟨xn, hxn⟩ : ∃ n, x.toNat = n := ⟨_, rfl⟩
              have hx255 : xn < 256 := by rw [← hxn]; exact x.toNat_lt
              have HXn := Lib.hid hxn
              by_cases hd : 48 ≤ xn ∧ xn ≤ 57
              · obtain ⟨hd1, hd2⟩ := hd
                have k1 : ¬ (xn : Int) < 48 := by omega
                have k2 : ¬ (57 : Int) < (xn : Int) := by omega
                have kw : IntKind.u8.wrap ((xn : Int) - 48) = ((xn - 48 : Nat) : Int) := by rw [IntKind.wrap_u8]; omega
                have km : IntKind.i64.wrap (10 * (v : Int)) = ((10 * v : Nat) : Int) := by rw [IntKind.wrap_i64]; omega
                have ka : IntKind.i64.wrap (((10 * v : Nat) : Int) + ((xn - 48 : Nat) : Int)) = ((10 * v + (xn - 48) : Nat) : Int) := by rw [IntKind.wrap_i64]; omega
                have kc : IntKind.i64.wrap ((xn - 48 : Nat) : Int) = ((xn - 48 : Nat) : Int) := by rw [IntKind.wrap_i64]; omega
                go_wp2
                go_roundw
                case rel => exact ⟨k + 1, by omega, by go_num, by rw [HTk.out, digVal_snoc, HV.out, HXn.out]; exact congrArg (Value.int .i64) (by omega), by rw [HTk.out]; intro c hc; rcases List.mem_append.1 hc with h | h; exact hdg.out c h; rw [List.mem_singleton.1 h]; exact ⟨by rw [HXn.out]; exact hd1, by rw [HXn.out]; exact hd2⟩, trivial⟩
                case measure => simp [intOf]; omega
              · have HNo : Hid (refNum l = none) := HR.no (fun h => by have := h x HMem.out; unfold isDig at this; rw [HXn.out] at this; exact hd this)
                by_cases hd0 : xn < 48
                · have k1 : (xn : Int) < 48 := by omega
                  clear hd
                  go_wp2
                  go_ret2
                  exact ⟨0, false, rfl, ⟨by omega, .inr ⟨rfl, HNo.out⟩⟩, rfl⟩
                · have k1 : ¬ (xn : Int) < 48 := by omega
                  have k2 : (57 : Int) < (xn : Int) := by omega
                  clear hd
                  go_wp2
                  go_ret2
                  exact ⟨0, false, rfl, ⟨by omega, .inr ⟨rfl, HNo.out⟩⟩, rfl⟩
            · obtain rfl : k = N := by omega
              have hall : D.take k = D := List.take_of_length_le (by rw [HN.out]; exact Nat.le_refl _)
              rw [hall] at hdg ⊢
              have hdv : digVal D < 10 ^ 9 := Nat.lt_of_lt_of_le (digVal_lt _ hdg.out) (Nat.pow_le_pow_right (by decide) (by rw [HN.out]; exact hN9))
              obtain ⟨v, hv⟩ : ∃ v, digVal D = v := ⟨_, rfl⟩
              have HV := Lib.hid hv
              rw [hv] at hdv ⊢
              have hvb : v < 1000000000 := hdv
              clear hdv hv hall
              go_wp2
              go_ret2
              exact ⟨(v : Int), true, rfl, ⟨by omega, .inl ⟨rfl, by rw [HR.pos hdg.out, HV.out]⟩⟩, rfl⟩

        · have HNo : Hid (refNum l = none) := by show refNum l = none; rw [← HLD.out]; unfold refNum; rw [hmg.out, if_pos (.inr (.inr (.inl ⟨HH.out, h1⟩)))]
          have hbe : ((tx D).toList == [48]) = false := by rw [beq_lit]; exact decide_eq_false h1
          clear h1
          go_wp2
          go_ret2
          exact ⟨0, false, rfl, ⟨by omega, .inr ⟨rfl, HNo.out⟩⟩, rfl⟩
      · have HR : NumR l D false := HLD.out ▸ numR_of false hmg.out HD0.out (by rw [HN.out]; exact hN9) (fun h => h48 (by have := h.1; rw [HH.out] at this; injection this)) (by simp)
        have kx : ¬ (x.toNat : Int) = 48 := fun e => h48 (UInt8.toNat_inj.1 (show x.toNat = 48 by omega))
        clear h48
        go_wp2
        go_loopw [5, 6] (fun a i wr => ∃ k : Nat, k ≤ N ∧ i = .int .i64 k ∧ a = .int .i64 (digVal (D.take k) : Nat) ∧ Hid (∀ c ∈ D.take k, isDig c) ∧ wr = w) (fun _ i _ => N - (intOf i).toNat)
        case atStart => exact ⟨0, Nat.zero_le _, rfl, rfl, fun c hc => by simp at hc, rfl⟩
        case round =>
          obtain ⟨k, hk, rfl, rfl, hdg, rfl⟩ := hrel
          by_cases hlt : k < N
          · have hkl : k < D.length := by rw [HN.out]; exact hlt
            have htk : D.take (k + 1) = D.take k ++ [D[k]] := (List.take_append_getElem hkl).symm
            have hmem : D[k] ∈ D := List.getElem_mem hkl
            have hdv : digVal (D.take k) < 10 ^ 9 := Nat.lt_of_lt_of_le (digVal_lt _ hdg.out) (Nat.pow_le_pow_right (by decide) (by rw [List.length_take]; omega))
            obtain ⟨v, hv⟩ : ∃ v, digVal (D.take k) = v := ⟨_, rfl⟩
            have HV := Lib.hid hv
            rw [hv] at hdv ⊢
            obtain ⟨x, hx⟩ : ∃ x, D[k] = x := ⟨_, rfl⟩
            have hX : ∀ h, (tx D)[k]'h = x := fun _ => hx
            rw [hx] at htk hmem
            have HTk := Lib.hid htk
            have HMem := Lib.hid hmem
            have hvb : v < 1000000000 := hdv
            clear hdv hv htk hmem hx
            obtain ⟨xn, hxn⟩ : ∃ n, x.toNat = n := ⟨_, rfl⟩
            have hx255 : xn < 256 := by rw [← hxn]; exact x.toNat_lt
            have HXn := Lib.hid hxn
            by_cases hd : 48 ≤ xn ∧ xn ≤ 57
            · obtain ⟨hd1, hd2⟩ := hd
              have k1 : ¬ (xn : Int) < 48 := by omega
              have k2 : ¬ (57 : Int) < (xn : Int) := by omega
              have kw : IntKind.u8.wrap ((xn : Int) - 48) = ((xn - 48 : Nat) : Int) := by rw [IntKind.wrap_u8]; omega
              have km : IntKind.i64.wrap (10 * (v : Int)) = ((10 * v : Nat) : Int) := by rw [IntKind.wrap_i64]; omega
              have ka : IntKind.i64.wrap (((10 * v : Nat) : Int) + ((xn - 48 : Nat) : Int)) = ((10 * v + (xn - 48) : Nat) : Int) := by rw [IntKind.wrap_i64]; omega
              have kc : IntKind.i64.wrap ((xn - 48 : Nat) : Int) = ((xn - 48 : Nat) : Int) := by rw [IntKind.wrap_i64]; omega
              go_wp2
              go_roundw
              case rel => exact ⟨k + 1, by omega, by go_num, by rw [HTk.out, digVal_snoc, HV.out, HXn.out]; exact congrArg (Value.int .i64) (by omega), by rw [HTk.out]; intro c hc; rcases List.mem_append.1 hc with h | h; exact hdg.out c h; rw [List.mem_singleton.1 h]; exact ⟨by rw [HXn.out]; exact hd1, by rw [HXn.out]; exact hd2⟩, trivial⟩
              case measure => simp [intOf]; omega
            · have HNo : Hid (refNum l = none) := HR.no (fun h => by have := h x HMem.out; unfold isDig at this; rw [HXn.out] at this; exact hd this)
              by_cases hd0 : xn < 48
              · have k1 : (xn : Int) < 48 := by omega
                clear hd
                go_wp2
                go_ret2
                exact ⟨0, false, rfl, ⟨by omega, .inr ⟨rfl, HNo.out⟩⟩, rfl⟩
              · have k1 : ¬ (xn : Int) < 48 := by omega
                have k2 : (57 : Int) < (xn : Int) := by omega
                clear hd
                go_wp2
                go_ret2
                exact ⟨0, false, rfl, ⟨by omega, .inr ⟨rfl, HNo.out⟩⟩, rfl⟩
          · obtain rfl : k = N := by omega
            have hall : D.take k = D := List.take_of_length_le (by rw [HN.out]; exact Nat.le_refl _)
            rw [hall] at hdg ⊢
            have hdv : digVal D < 10 ^ 9 := Nat.lt_of_lt_of_le (digVal_lt _ hdg.out) (Nat.pow_le_pow_right (by decide) (by rw [HN.out]; exact hN9))
            obtain ⟨v, hv⟩ : ∃ v, digVal D = v := ⟨_, rfl⟩
            have HV := Lib.hid hv
            rw [hv] at hdv ⊢
            have hvb : v < 1000000000 := hdv
            clear hdv hv hall
            go_wp2
            go_ret2
            exact ⟨(v : Int), true, rfl, ⟨by omega, .inl ⟨rfl, by rw [HR.pos hdg.out, HV.out]⟩⟩, rfl⟩

theorem RNumber_any (l : List UInt8) (w : World) (hs : l.length ≤ 100000) :
    Calls Tryd.prog 24 #[.string (tx l)] w fun e w' => NumRes (numC l) w e w' := by
  rw [numC_eq]
  by_cases h : l.head? = some 45
  · cases l with
    | nil => cases h
    | cons c r =>
      simp only [List.head?_cons, Option.some.injEq] at h
      subst h
      exact RNumber_neg r w (by simp at hs; omega)
  · exact RNumber_pos l w hs h
end Go.Proofs.YtidohbhcjnmmeaaDoor
