/-
  The document's numbers as bytes: Uvar, Int.
-/
import Derived.Test.YtofabaeadnljbaaDoorPkVar
import Derived.Test.YtofabaeadnljbaaDoorOwnF
namespace Go.Proofs.YtofabaeadnljbaaDoor
set_option linter.unusedSimpArgs false
set_option linter.unusedVariables false
open Go.RowKit

theorem str_app (a b : List UInt8) : (⟨a.toArray⟩ ++ ⟨b.toArray⟩ : ByteArray) = ⟨(a ++ b).toArray⟩ := by
  apply ByteArray.ext
  simp [ByteArray.data_append]
theorem and64_127 (x : Nat) (h : x < 18446744073709551616) : bits .and .u64 (x : Int) 127 = ((x % 128 : Nat) : Int) := by
  show IntKind.u64.wrap ((BitVec.ofInt 64 (x : Int) &&& BitVec.ofInt 64 127).toNat : Nat) = _
  have e1 : (BitVec.ofInt 64 (x : Int)).toNat = x := by rw [BitVec.toNat_ofInt]; omega
  have e2 : (BitVec.ofInt 64 127).toNat = 2 ^ 7 - 1 := by decide
  rw [BitVec.toNat_and, e1, e2, Nat.and_two_pow_sub_one_eq_mod, wrap_u64']
  omega
theorem or8_128' (m : Nat) (h : m < 128) : bits .or .u8 (m : Int) 128 = ((m + 128 : Nat) : Int) := by
  have := or8_128 m
  rw [show m % 256 = m from by omega, show m % 128 = m from by omega] at this
  exact this

set_option maxHeartbeats 1600000 in
set_option maxRecDepth 100000 in
theorem RUvar_any (x : Nat) (w : World) (hx : x < 18446744073709551616) : Calls Tryd.prog 40 #[.int .u64 x] w fun e w' => e = .returned (strv (uvar x)) ∧ Fr Nob w w' := by
  have hle := uvar_le x hx
  go_enter Tryd.func40, Tryd.ntmps40
  go_wp2
  go_loopw [0, 3] (fun y v wr => ∃ (n : Nat) (pre : List UInt8), n ≤ x ∧ y = .int .u64 n ∧ v = .string ⟨pre.toArray⟩ ∧ Hid (pre ++ uvar n = uvar x) ∧ Hid (Fr Nob w wr)) (fun y _ _ => (intOf y).toNat)
  case atStart => exact ⟨x, [], Nat.le_refl _, rfl, rfl, rfl, Fr.refl _ _⟩
  case round =>
    obtain ⟨n, pre, hn, rfl, rfl, hp, hF⟩ := hrel
    have hpl : pre.length ≤ 10 := by
      have := congrArg List.length hp.out
      rw [List.length_append] at this
      omega
    by_cases hlt : 128 ≤ n
    · have hu := uvar_big hlt
      rw [hu] at hp
      have hm8 : (UInt8.ofNat (n % 128 + 128)).toNat = n % 128 + 128 := ofNat_toNat (by omega)
      obtain ⟨c8, hc8⟩ : ∃ c8, UInt8.ofNat (n % 128 + 128) = c8 := ⟨_, rfl⟩
      rw [hc8] at hm8 hp
      have ha := and64_127 n (by omega)
      have ho := or8_128' (n % 128) (by omega)
      rw [← hm8] at ho
      obtain ⟨m, hm⟩ : ∃ m, n % 128 = m := ⟨_, rfl⟩
      have hml : m < 128 := by omega
      rw [hm] at ha ho
      have e8 : IntKind.u8.wrap (m : Int) = (m : Int) := by rw [wrap_u8']; omega
      have hcv : (convert 26 9 (.slice (some ⟨wr.heap.size, 0, none⟩) 1 1)).run Tryd.prog (wr.alloc (.cells #[.int .u8 c8.toNat] 5)) = .ok (.string ⟨#[c8]⟩) (wr.alloc (.cells #[.int .u8 c8.toNat] 5)) := conv_in (bytesIn_of (Blk.new wr 5 (bts [c8]).toArray)) 1
      clear hu hc8 hm8 hm
      go_wp2
      go_roundw
      case rel => exact ⟨n / 128, pre ++ [c8], by omega, by go_num, by rw [← str_app], by rw [Hid, List.append_assoc]; exact hp, hF.out.alloc _⟩
      case measure => simp [intOf]; omega
    · have hu := uvar_small (show n < 128 by omega)
      rw [hu] at hp
      have hm8 : (UInt8.ofNat n).toNat = n := ofNat_toNat (by omega)
      obtain ⟨c8, hc8⟩ : ∃ c8, UInt8.ofNat n = c8 := ⟨_, rfl⟩
      rw [hc8] at hm8 hp
      clear hu hc8
      subst hm8
      have hcv : (convert 26 9 (.slice (some ⟨wr.heap.size, 0, none⟩) 1 1)).run Tryd.prog (wr.alloc (.cells #[.int .u8 c8.toNat] 5)) = .ok (.string ⟨#[c8]⟩) (wr.alloc (.cells #[.int .u8 c8.toNat] 5)) := conv_in (bytesIn_of (Blk.new wr 5 (bts [c8]).toArray)) 1
      go_wp2
      go_ret
      refine ⟨?_, hF.out.alloc _⟩
      show Ending.returned (.string (_ ++ _)) = _
      rw [show (#[c8] : Array UInt8) = [c8].toArray from rfl, str_app, hp.out]
      rfl

set_option maxRecDepth 100000 in
theorem RInt_any (x : Int) (w : World) (h0 : -9223372036854775808 ≤ x) (h1 : x ≤ 9223372036854775807) : Calls Tryd.prog 28 #[.int .i64 x] w fun e w' => e = .returned (strv (intB x)) ∧ Fr Nob w w' := by
  by_cases hx : x < 0
  · obtain ⟨v, hv, hvx, hb⟩ := intB_neg hx h0
    have HU := Lib.hid (RUvar_any (v * 2 + 1) w (by omega))
    have e1 : IntKind.i64.wrap (x + 1) = x + 1 := by rw [IntKind.wrap_i64]; omega
    have e2 : IntKind.i64.wrap (-(x + 1)) = (v : Int) := by rw [hvx, IntKind.wrap_i64]; omega
    have e3 : IntKind.u64.wrap (v : Int) = (v : Int) := by rw [IntKind.wrap_u64]; omega
    have e4 : IntKind.u64.wrap ((v : Int) * 2) = (v : Int) * 2 := by rw [IntKind.wrap_u64]; omega
    have e5 : bits .or .u64 ((v : Int) * 2) 1 = ((v * 2 + 1 : Nat) : Int) := or64_1 v hv
    have HB := Lib.hid hb
    clear hb hvx
    go_enter Tryd.func28, Tryd.ntmps28
    go_wp2_with fail
    refine HU.out.mono ?_
    rintro e w1 ⟨rfl, hm⟩
    unfold strv
    go_wp2
    go_ret
    exact ⟨by rw [HB.out]; rfl, hm⟩
  · obtain ⟨v, hv, rfl, hb⟩ := intB_pos hx h1
    have HU := Lib.hid (RUvar_any (v * 2) w (by omega))
    have e3 : IntKind.u64.wrap (v : Int) = (v : Int) := by rw [IntKind.wrap_u64]; omega
    have e4 : IntKind.u64.wrap ((v : Int) * 2) = ((v * 2 : Nat) : Int) := by rw [IntKind.wrap_u64]; omega
    have HB := Lib.hid hb
    clear hb
    go_enter Tryd.func28, Tryd.ntmps28
    go_wp2_with fail
    refine HU.out.mono ?_
    rintro e w1 ⟨rfl, hm⟩
    unfold strv
    go_wp2
    go_ret
    exact ⟨by rw [HB.out]; rfl, hm⟩
end Go.Proofs.YtofabaeadnljbaaDoor
