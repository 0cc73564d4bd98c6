/-
  Var, Int, IntOf: numbers as bytes, and read again.
-/
import Derived.Test.YtofabaeadnljbaaDoorPkUvar
namespace Go.Proofs.YtofabaeadnljbaaDoor
set_option linter.unusedSimpArgs false
set_option linter.unusedVariables false
open Go.RowKit

/-- One byte of a number. -/
theorem varF_step (b : List UInt8) (i acc : Nat) (hi : i ≤ 9) (c : UInt8) (hc : b[i]? = some c) :
    varF b i acc (10 - i) = if i = 9 ∧ 1 < c.toNat then (0, 0, 5) else if 128 ≤ c.toNat then varF b (i + 1) (acc + c.toNat % 128 * 128 ^ i) (10 - (i + 1)) else if c.toNat = 0 ∧ 0 < i then (0, 0, 3) else (acc + c.toNat * 128 ^ i, i + 1, 0) := by
  rw [show 10 - i = (10 - (i + 1)) + 1 from by omega, varF, hc]
theorem varF_end (b : List UInt8) (i acc : Nat) (hi : i ≤ 9) (hc : b.length ≤ i) : varF b i acc (10 - i) = (0, 0, 4) := by
  rw [show 10 - i = (10 - (i + 1)) + 1 from by omega, varF, List.getElem?_eq_none hc]
/-- What the read numbers come to. -/
def varV (r : Nat × Nat × Nat) : Value := .tuple #[.int .u64 (r.1 : Int), .int .i64 (r.2.1 : Int), .int .i64 (r.2.2 : Int)]

set_option maxHeartbeats 1600000 in
set_option maxRecDepth 100000 in
theorem Var_any (A : Option Addr) (cp : Nat) (b : List UInt8) (w : World) (h : BytesIn w A b) (hl : b.length ≤ 140737488351232) :
    Calls Tryd.prog 55 #[.slice A b.length cp] w fun e w' => e = .returned (varV (varB b)) ∧ w = w' := by
  have H := Lib.hid h
  clear h
  go_enter Tryd.func55, Tryd.ntmps55
  go_wp2
  go_loopw [2, 5, 8, 13] (fun x i _ _ wr => ∃ (k acc : Nat), k ≤ 9 ∧ x = .int .u64 acc ∧ i = .int .i64 k ∧ Hid (acc < 128 ^ k) ∧ Hid (varF b k acc (10 - k) = varB b) ∧ w = wr) (fun _ i _ _ _ => 10 - (intOf i).toNat)
  case atStart => exact ⟨0, 0, by omega, rfl, rfl, (by decide : (0 : Nat) < 128 ^ 0), rfl, rfl⟩
  case round =>
    obtain ⟨k, acc, hk, rfl, rfl, ha, hv, rfl⟩ := hrel
    by_cases hlt : k < b.length
    · obtain ⟨g, o, hA, hc⟩ := H.out (by omega)
      subst hA
      have c0 := hc k _ (List.getElem?_eq_getElem hlt)
      have hst := varF_step b k acc hk b[k] (List.getElem?_eq_getElem hlt)
      rw [hv.out] at hst
      have hcl := UInt8.toNat_lt b[k]
      clear hc
      obtain ⟨c, hcc⟩ : ∃ c, b[k].toNat = c := ⟨_, rfl⟩
      rw [hcc] at hst c0 hcl
      have HSt := Lib.hid hst
      have hand := and8_127 c hcl
      clear hst hcc hv
      obtain ⟨l, hll⟩ : ∃ l, b.length = l := ⟨_, rfl⟩
      rw [hll] at hl hlt ⊢
      clear hll
      have hkI : (0 : Int) ≤ (k : Int) := by omega
      have hkl : (k : Int) < (l : Int) := by omega
      by_cases h9 : k = 9
      · subst h9
        have hk9 : (9 : Int) < (l : Int) := by omega
        by_cases h1 : 1 < c
        · have HR := HSt.out
          rw [if_pos ⟨rfl, h1⟩] at HR
          have HRh := Lib.hid HR
          have h1' : (1 : Int) < (c : Int) := by omega
          clear HR HSt hand hkI hkl hlt
          go_wp2
          go_ret3
          exact ⟨by rw [HRh.out]; rfl, rfl⟩
        · have hor := or_shl acc (c % 128) 9 ha.out hk (by omega) (fun _ => by omega)
          have HR := HSt.out
          rw [if_neg (fun h => h1 h.2), if_neg (by omega)] at HR
          have hc : c = 0 ∨ c = 1 := by omega
          rcases hc with rfl | rfl
          · rw [if_pos ⟨rfl, by omega⟩] at HR
            have HRh := Lib.hid HR
            clear HR HSt hand hkI hkl hlt hor
            go_wp2
            go_ret3
            exact ⟨by rw [HRh.out]; rfl, rfl⟩
          · rw [if_neg (by omega)] at HR
            have hor : bits .or .u64 (acc : Int) 9223372036854775808 = ((acc + 1 * 128 ^ 9 : Nat) : Int) := hor
            obtain ⟨r, hr⟩ : ∃ r, acc + 1 * 128 ^ 9 = r := ⟨_, rfl⟩
            rw [hr] at hor HR
            have HRh := Lib.hid HR
            have hand1 : bits .and .u8 1 127 = 1 := by decide
            clear HR HSt hand hkI hkl hlt hr
            go_wp2
            go_ret3
            exact ⟨by rw [HRh.out]; rfl, rfl⟩
      · have hor := or_shl acc (c % 128) k ha.out hk (by omega) (fun e => absurd e h9)
        have hor : bits .or .u64 (acc : Int) (IntKind.u64.wrap ((c : Int) % 128 * 2 ^ (7 * k))) = ((acc + c % 128 * 128 ^ k : Nat) : Int) := hor
        have e7 : IntKind.i64.wrap (7 * (k : Int)) = 7 * (k : Int) := by rw [IntKind.wrap_i64]; omega
        have e1 : IntKind.i64.wrap ((k : Int) + 1) = (k : Int) + 1 := by rw [IntKind.wrap_i64]; omega
        have t9 : ((k : Int) == 9) = false := by rw [beq_eq_false_iff_ne]; omega
        have HR := HSt.out
        rw [if_neg (fun h => h9 h.1)] at HR
        by_cases h128 : 128 ≤ c
        · rw [if_pos h128] at HR
          have hpow : acc + c % 128 * 128 ^ k < 128 ^ (k + 1) := by
            have h1 : c % 128 * 128 ^ k ≤ 127 * 128 ^ k := Nat.mul_le_mul_right _ (by omega)
            have h2 : 128 ^ (k + 1) = 128 ^ k * 128 := Nat.pow_succ ..
            have := ha.out
            omega
          obtain ⟨r, hr⟩ : ∃ r, acc + c % 128 * 128 ^ k = r := ⟨_, rfl⟩
          rw [hr] at hor HR hpow
          have HP := Lib.hid hpow
          have HV := Lib.hid HR.symm
          have h128' : (128 : Int) ≤ (c : Int) := by omega
          clear HR HSt hr hpow ha
          go_wp2
          go_roundw
          case rel => exact ⟨k + 1, r, by omega, by go_num, by go_num, HP, HV, by trivial⟩
          case measure => simp [intOf]; omega
        · rw [if_neg h128] at HR
          have h128' : (c : Int) < 128 := by omega
          rw [show c % 128 = c from by omega] at hor hand
          by_cases h0 : c = 0 ∧ 0 < k
          · rw [if_pos h0] at HR
            obtain ⟨rfl, h0k⟩ := h0
            have h0k' : (0 : Int) < (k : Int) := by omega
            have HRh := Lib.hid HR
            clear HR HSt hor
            go_wp2
            go_ret3
            exact ⟨by rw [HRh.out]; rfl, rfl⟩
          · rw [if_neg h0] at HR
            by_cases hc0 : c = 0
            · subst hc0
              have hk0 : ¬ (0 : Int) < (k : Int) := by omega
              have hand0 : bits .and .u8 0 127 = 0 := by decide
              have hor0 := or_shl acc 0 k ha.out hk (by omega) (fun _ => by omega)
              rw [show (((0 : Nat) : Int)) * 2 ^ (7 * k) = 0 from by simp, show IntKind.u64.wrap 0 = 0 from by decide] at hor0
              obtain ⟨r, hr⟩ : ∃ r, acc + 0 * 128 ^ k = r := ⟨_, rfl⟩
              rw [hr] at hor0 HR
              have HRh := Lib.hid HR
              clear HR HSt hr hor
              go_wp2
              go_ret3
              exact ⟨by rw [HRh.out]; rfl, rfl⟩
            · have tc0 : ((c : Int) == 0) = false := by rw [beq_eq_false_iff_ne]; omega
              have hor2 := or_shl acc c k ha.out hk (by omega) (fun e => absurd e h9)
              obtain ⟨r, hr⟩ : ∃ r, acc + c * 128 ^ k = r := ⟨_, rfl⟩
              rw [hr] at hor2 HR
              have HRh := Lib.hid HR
              clear HR HSt hr hor
              go_wp2
              go_ret3
              exact ⟨by rw [HRh.out]; rfl, rfl⟩
    · have HRh : Hid (varB b = (0, 0, 4)) := by rw [Hid, ← hv.out, varF_end b k acc hk (by omega)]
      have hkl : ((b.length : Nat) : Int) ≤ (k : Int) := by omega
      go_wp2
      go_ret3
      exact ⟨by rw [HRh.out]; rfl, rfl⟩

theorem intB_neg {x : Int} (h : x < 0) (h0 : -9223372036854775808 ≤ x) : ∃ v : Nat, v < 9223372036854775808 ∧ -(x + 1) = (v : Int) ∧ intB x = uvar (v * 2 + 1) := by
  refine ⟨(-(x + 1)).toNat, by omega, by omega, ?_⟩
  unfold intB
  rw [if_pos h]
theorem intB_pos {x : Int} (h : ¬ x < 0) (h1 : x ≤ 9223372036854775807) : ∃ v : Nat, v < 9223372036854775808 ∧ x = (v : Int) ∧ intB x = uvar (v * 2) := by
  refine ⟨x.toNat, by omega, by omega, ?_⟩
  unfold intB
  rw [if_neg h]

set_option maxRecDepth 100000 in
theorem Int_any (x : Int) (w : World) (h0 : -9223372036854775808 ≤ x) (h1 : x ≤ 9223372036854775807) : Calls Tryd.prog 43 #[.int .i64 x] w fun e w' => ∃ v, e = .returned v ∧ Made w w' v (intB x) := by
  by_cases hx : x < 0
  · obtain ⟨v, hv, hvx, hb⟩ := intB_neg hx h0
    have HU := Lib.hid (Uvar_any (v * 2 + 1) w (by omega))
    have e1 : IntKind.i64.wrap (x + 1) = x + 1 := by rw [IntKind.wrap_i64]; omega
    have e2 : IntKind.i64.wrap (-(x + 1)) = (v : Int) := by rw [hvx, IntKind.wrap_i64]; omega
    have e3 : IntKind.u64.wrap (v : Int) = (v : Int) := by rw [IntKind.wrap_u64]; omega
    have e4 : IntKind.u64.wrap ((v : Int) * 2) = (v : Int) * 2 := by rw [IntKind.wrap_u64]; omega
    have e5 : bits .or .u64 ((v : Int) * 2) 1 = ((v * 2 + 1 : Nat) : Int) := or64_1 v hv
    have HB := Lib.hid hb
    clear hb hvx
    go_enter Tryd.func43, Tryd.ntmps43
    go_wp2_with fail
    refine HU.out.mono ?_
    rintro e w1 ⟨v1, rfl, hm⟩
    go_wp2
    go_ret
    exact ⟨v1, rfl, by rw [HB.out]; exact hm⟩
  · obtain ⟨v, hv, rfl, hb⟩ := intB_pos hx h1
    have HU := Lib.hid (Uvar_any (v * 2) w (by omega))
    have e3 : IntKind.u64.wrap (v : Int) = (v : Int) := by rw [IntKind.wrap_u64]; omega
    have e4 : IntKind.u64.wrap ((v : Int) * 2) = ((v * 2 : Nat) : Int) := by rw [IntKind.wrap_u64]; omega
    have HB := Lib.hid hb
    clear hb
    go_enter Tryd.func43, Tryd.ntmps43
    go_wp2_with fail
    refine HU.out.mono ?_
    rintro e w1 ⟨v1, rfl, hm⟩
    go_wp2
    go_ret
    exact ⟨v1, rfl, by rw [HB.out]; exact hm⟩

def intOfV (r : Int × Nat × Nat) : Value := .tuple #[.int .i64 r.1, .int .i64 (r.2.1 : Int), .int .i64 (r.2.2 : Int)]
set_option maxRecDepth 100000 in
theorem IntOf_any (A : Option Addr) (cp : Nat) (b : List UInt8) (w : World) (h : BytesIn w A b) (hl : b.length ≤ 140737488351232) :
    Calls Tryd.prog 45 #[.slice A b.length cp] w fun e w' => e = .returned (intOfV (intOfB b)) ∧ w = w' := by
  have HV := Lib.hid (Var_any A cp b w h hl)
  obtain ⟨s1, _, _, s4⟩ := varB_spec b
  have HD : Hid (intOfB b = if (varB b).2.2 = 0 then (intV (varB b).1, (varB b).2.1, 0) else (0, 0, (varB b).2.2)) := rfl
  obtain ⟨x, n, e, hr⟩ : ∃ x n e, varB b = (x, n, e) := ⟨_, _, _, rfl⟩
  rw [hr] at HV HD s1
  clear h hr s4
  have HV : Hid (Calls Tryd.prog 55 #[.slice A b.length cp] w fun e' w' => e' = .returned (.tuple #[.int .u64 (x : Int), .int .i64 (n : Int), .int .i64 (e : Int)]) ∧ w = w') := HV
  have HD : Hid (intOfB b = if e = 0 then (intV x, n, 0) else (0, 0, e)) := HD
  have s1 : x < 18446744073709551616 := s1
  by_cases he : e = 0
  · subst he
    have HDr : Hid (intOfB b = (intV x, n, 0)) := HD
    have e1 : IntKind.i64.wrap ((x : Int) / 2) = (x : Int) / 2 := by rw [IntKind.wrap_i64]; omega
    have hand := and64_1 x s1
    rcases Nat.mod_two_eq_zero_or_one x with hm | hm
    · rw [hm] at hand
      have HI : Hid (intV x = (x : Int) / 2) := by unfold Hid intV; rw [if_neg (by omega)]; rfl
      clear HD hm
      go_enter Tryd.func45, Tryd.ntmps45
      go_wp2_with fail
      refine HV.out.mono ?_
      rintro e w1 ⟨rfl, rfl⟩
      go_wp2
      go_ret3
      exact ⟨by rw [HDr.out, HI.out]; rfl, rfl⟩
    · rw [hm] at hand
      have HI : Hid (intV x = -((x : Int) / 2) - 1) := by unfold Hid intV; rw [if_pos hm]; rfl
      have e2 : IntKind.i64.wrap (-((x : Int) / 2)) = -((x : Int) / 2) := by rw [IntKind.wrap_i64]; omega
      have e3 : IntKind.i64.wrap (-((x : Int) / 2) - 1) = -((x : Int) / 2) - 1 := by rw [IntKind.wrap_i64]; omega
      clear HD hm
      go_enter Tryd.func45, Tryd.ntmps45
      go_wp2_with fail
      refine HV.out.mono ?_
      rintro e w1 ⟨rfl, rfl⟩
      go_wp2
      go_ret3
      exact ⟨by rw [HDr.out, HI.out]; rfl, rfl⟩
  · have HDr : Hid (intOfB b = (0, 0, e)) := by rw [Hid, HD.out, if_neg he]
    have te : ((e : Int) == 0) = false := by rw [beq_eq_false_iff_ne]; omega
    clear HD
    go_enter Tryd.func45, Tryd.ntmps45
    go_wp2_with fail
    refine HV.out.mono ?_
    rintro e w1 ⟨rfl, rfl⟩
    go_wp2
    go_ret3
    exact ⟨by rw [HDr.out]; rfl, rfl⟩
end Go.Proofs.YtofabaeadnljbaaDoor
