/-
  The document's Var, IntOf.
-/
import Derived.Test.YtofabaeadnljbaaDoorPkRef
namespace Go.Proofs.YtofabaeadnljbaaDoor
set_option linter.unusedSimpArgs false
set_option linter.unusedVariables false
open Go.RowKit

set_option maxHeartbeats 1600000 in
set_option maxRecDepth 100000 in
theorem RVar_any (b : List UInt8) (w : World) (hl : b.length ≤ 140737488351232) :
    Calls Tryd.prog 39 #[.string ⟨b.toArray⟩] w fun e w' => e = .returned (varV (varB b)) ∧ w = w' := by
  go_enter Tryd.func39, Tryd.ntmps39
  go_wp2
  go_loopw [5, 6] (fun x i wr => ∃ (k acc : Nat), k ≤ 9 ∧ k ≤ b.length ∧ x = .int .u64 acc ∧ i = .int .i64 k ∧ Hid (acc < 128 ^ k) ∧ Hid (varF b k acc (10 - k) = varB b) ∧ w = wr) (fun _ i _ => 10 - (intOf i).toNat)
  case atStart => exact ⟨0, 0, by omega, by omega, rfl, rfl, (by decide : (0 : Nat) < 128 ^ 0), rfl, rfl⟩
  case round =>
    obtain ⟨k, acc, hk, hkb, rfl, rfl, ha, hv, rfl⟩ := hrel
    have hk10 : (k : Int) < 10 := by omega
    by_cases hlt : k < b.length
    · have hst := varF_step b k acc hk b[k] (List.getElem?_eq_getElem hlt)
      rw [hv.out] at hst
      have hcl := UInt8.toNat_lt b[k]
      have hsz : (⟨b.toArray⟩ : ByteArray).size = b.length := rfl
      obtain ⟨b8, hb8⟩ : ∃ b8, b[k] = b8 := ⟨_, rfl⟩
      have hg : ∀ h, (⟨b.toArray⟩ : ByteArray)[k]'h = b8 := fun h => hb8
      rw [hb8] at hst hcl
      obtain ⟨c, hcc⟩ : ∃ c, b8.toNat = c := ⟨_, rfl⟩
      rw [hcc] at hst hcl
      have HSt := Lib.hid hst
      have hand := and8_127 c hcl
      clear hst hv
      obtain ⟨l, hll⟩ : ∃ l, b.length = l := ⟨_, rfl⟩
      rw [hll] at hl hlt hsz
      clear hll
      have hkI : (0 : Int) ≤ (k : Int) := by omega
      have hkl : (k : Int) < (l : Int) := by omega
      by_cases h9 : k = 9
      · subst h9
        have hk9 : (9 : Int) < (l : Int) := by omega
        by_cases h1 : 1 < c
        · have HR := HSt.out
          rw [if_pos ⟨rfl, h1⟩] at HR
          have HRh := Lib.hid HR
          have h1' : (1 : Int) < (c : Int) := by omega
          clear HR HSt hand hkI hkl hlt
          go_wp2
          go_ret3
          exact ⟨by rw [HRh.out]; rfl, rfl⟩
        · have hor := or_shl acc (c % 128) 9 ha.out hk (by omega) (fun _ => by omega)
          have HR := HSt.out
          rw [if_neg (fun h => h1 h.2), if_neg (by omega)] at HR
          have hc : c = 0 ∨ c = 1 := by omega
          rcases hc with rfl | rfl
          · rw [if_pos ⟨rfl, by omega⟩] at HR
            have HRh := Lib.hid HR
            clear HR HSt hand hkI hkl hlt hor
            go_wp2
            go_ret3
            exact ⟨by rw [HRh.out]; rfl, rfl⟩
          · rw [if_neg (by omega)] at HR
            have hor : bits .or .u64 (acc : Int) 9223372036854775808 = ((acc + 1 * 128 ^ 9 : Nat) : Int) := hor
            obtain ⟨r, hr⟩ : ∃ r, acc + 1 * 128 ^ 9 = r := ⟨_, rfl⟩
            rw [hr] at hor HR
            have HRh := Lib.hid HR
            have hand1 : bits .and .u8 1 127 = 1 := by decide
            clear HR HSt hand hkI hkl hlt hr
            go_wp2
            go_ret3
            exact ⟨by rw [HRh.out]; rfl, rfl⟩
      · have hor := or_shl acc (c % 128) k ha.out hk (by omega) (fun e => absurd e h9)
        have hor : bits .or .u64 (acc : Int) (IntKind.u64.wrap ((c : Int) % 128 * 2 ^ (7 * k))) = ((acc + c % 128 * 128 ^ k : Nat) : Int) := hor
        have e7 : IntKind.i64.wrap (7 * (k : Int)) = 7 * (k : Int) := by rw [IntKind.wrap_i64]; omega
        have e1 : IntKind.i64.wrap ((k : Int) + 1) = (k : Int) + 1 := by rw [IntKind.wrap_i64]; omega
        have t9 : ((k : Int) == 9) = false := by rw [beq_eq_false_iff_ne]; omega
        have HR := HSt.out
        rw [if_neg (fun h => h9 h.1)] at HR
        by_cases h128 : 128 ≤ c
        · rw [if_pos h128] at HR
          have hpow : acc + c % 128 * 128 ^ k < 128 ^ (k + 1) := by
            have h1 : c % 128 * 128 ^ k ≤ 127 * 128 ^ k := Nat.mul_le_mul_right _ (by omega)
            have h2 : 128 ^ (k + 1) = 128 ^ k * 128 := Nat.pow_succ ..
            have := ha.out
            omega
          obtain ⟨r, hr⟩ : ∃ r, acc + c % 128 * 128 ^ k = r := ⟨_, rfl⟩
          rw [hr] at hor HR hpow
          have HP := Lib.hid hpow
          have HV := Lib.hid HR.symm
          have h128' : (128 : Int) ≤ (c : Int) := by omega
          clear HR HSt hr hpow ha
          go_wp2
          go_roundw
          case rel => exact ⟨k + 1, r, by omega, by omega, by go_num, by go_num, HP, HV, by trivial⟩
          case measure => simp [intOf]; omega
        · rw [if_neg h128] at HR
          have h128' : (c : Int) < 128 := by omega
          rw [show c % 128 = c from by omega] at hor hand
          by_cases h0 : c = 0 ∧ 0 < k
          · rw [if_pos h0] at HR
            obtain ⟨rfl, h0k⟩ := h0
            have h0k' : (0 : Int) < (k : Int) := by omega
            have HRh := Lib.hid HR
            clear HR HSt hor
            go_wp2
            go_ret3
            exact ⟨by rw [HRh.out]; rfl, rfl⟩
          · rw [if_neg h0] at HR
            by_cases hc0 : c = 0
            · subst hc0
              have hk0 : ¬ (0 : Int) < (k : Int) := by omega
              have hand0 : bits .and .u8 0 127 = 0 := by decide
              have hor0 := or_shl acc 0 k ha.out hk (by omega) (fun _ => by omega)
              rw [show (((0 : Nat) : Int)) * 2 ^ (7 * k) = 0 from by simp, show IntKind.u64.wrap 0 = 0 from by decide] at hor0
              obtain ⟨r, hr⟩ : ∃ r, acc + 0 * 128 ^ k = r := ⟨_, rfl⟩
              rw [hr] at hor0 HR
              have HRh := Lib.hid HR
              clear HR HSt hr hor
              go_wp2
              go_ret3
              exact ⟨by rw [HRh.out]; rfl, rfl⟩
            · have tc0 : ((c : Int) == 0) = false := by rw [beq_eq_false_iff_ne]; omega
              have hor2 := or_shl acc c k ha.out hk (by omega) (fun e => absurd e h9)
              obtain ⟨r, hr⟩ : ∃ r, acc + c * 128 ^ k = r := ⟨_, rfl⟩
              rw [hr] at hor2 HR
              have HRh := Lib.hid HR
              clear HR HSt hr hor
              go_wp2
              go_ret3
              exact ⟨by rw [HRh.out]; rfl, rfl⟩
    · have HRh : Hid (varB b = (0, 0, 4)) := by rw [Hid, ← hv.out, varF_end b k acc hk (by omega)]
      have hsz : (⟨b.toArray⟩ : ByteArray).size = b.length := rfl
      have hkl : b.length = k := by omega
      rw [hkl] at hsz
      clear hkl hl
      go_wp2
      go_ret3
      exact ⟨by rw [HRh.out]; rfl, rfl⟩
end Go.Proofs.YtofabaeadnljbaaDoor
