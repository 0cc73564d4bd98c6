/-
  CRC: what it computes, as a function of the bytes.
-/
import Derived.Test.YtilclfeaolhoeaaDoorBytes0
namespace Go.Proofs.YtilclfeaolhoeaaDoor
set_option linter.unusedSimpArgs false
set_option linter.unusedVariables false
open Go.RowKit

theorem bits_u32_range (op : BinOp) (a b : Int) : 0 ≤ IntKind.u32.wrap a ∧ IntKind.u32.wrap a < 4294967296 := by
  rw [IntKind.wrap_u32]; omega
theorem xor_u32_range (a b : Int) : 0 ≤ bits .xor .u32 a b ∧ bits .xor .u32 a b < 4294967296 := by
  show 0 ≤ IntKind.u32.wrap _ ∧ IntKind.u32.wrap _ < _
  rw [IntKind.wrap_u32]; omega
theorem and_u32_15 (a : Int) (h0 : 0 ≤ a) (h1 : a < 4294967296) : bits .and .u32 a 15 = a % 16 := by
  show IntKind.u32.wrap ((BitVec.ofInt 32 a &&& BitVec.ofInt 32 15).toNat : Nat) = _
  obtain ⟨n, rfl⟩ := Int.eq_ofNat_of_zero_le h0
  have e1 : (BitVec.ofInt 32 (n : Int)).toNat = n := by rw [BitVec.toNat_ofInt]; omega
  have e2 : (BitVec.ofInt 32 15).toNat = 2 ^ 4 - 1 := by decide
  rw [BitVec.toNat_and, e1, e2, Nat.and_two_pow_sub_one_eq_mod, IntKind.wrap_u32]
  omega

def tstep (y : Int) : Int := bits .xor .u32 (y / 2) (bits .and .u32 3988292384 (-bits .and .u32 y 1 % 4294967296))
def tIter : Nat → Int → Int
  | 0, y => y
  | n + 1, y => tstep (tIter n y)
def tabI (k : Nat) : Int := tIter 4 k
theorem tabI_range (k : Nat) : 0 ≤ tabI k ∧ tabI k < 4294967296 := xor_u32_range _ _
/-- The table, so far. -/
def tabK (k : Nat) : List Value := (List.range 16).map fun i => .int .u32 (if i < k then tabI i else 0)
theorem tabK_get (k i : Nat) (h : i < 16) : (tabK k)[i]? = some (.int .u32 (if i < k then tabI i else 0)) := by
  unfold tabK
  rw [List.getElem?_map, List.getElem?_range h]; rfl
theorem tabK_set (k : Nat) (hk : k < 16) : (tabK k).toArray.setIfInBounds k (.int .u32 (tabI k)) = (tabK (k + 1)).toArray := by
  rw [List.setIfInBounds_toArray]
  congr 1
  apply List.ext_getElem?
  intro i
  have hl : ∀ k, (tabK k).length = 16 := fun k => by simp [tabK]
  rw [List.getElem?_set, hl]
  by_cases h : i < 16
  · rw [tabK_get _ _ h, tabK_get _ _ h]
    by_cases e : k = i
    · subst e; rw [if_pos rfl, if_pos hk, if_pos (by omega)]
    · rw [if_neg e]
      by_cases h2 : i < k
      · rw [if_pos h2, if_pos (by omega)]
      · rw [if_neg h2, if_neg (by omega)]
  · rw [List.getElem?_eq_none (by rw [hl]; omega), List.getElem?_eq_none (by rw [hl]; omega), if_neg (by omega)]

/-- A byte's half. -/
def chalf (w : Int) : Int := bits .xor .u32 (w / 16) (tabI (w % 16).toNat)
def cstep (w : Int) (b : UInt8) : Int := chalf (chalf (bits .xor .u32 w b.toNat))
def crcI (l : List UInt8) : Int := l.foldl cstep 4294967295
theorem crcI_take (l : List UInt8) (k : Nat) (h : k < l.length) : crcI (l.take (k + 1)) = cstep (crcI (l.take k)) l[k] := by
  unfold crcI
  rw [List.take_add_one, List.getElem?_eq_getElem h, Option.toList_some, List.foldl_append]; rfl
theorem crcI_range (l : List UInt8) : 0 ≤ crcI l ∧ crcI l < 4294967296 := by
  rcases List.eq_nil_or_concat l with rfl | ⟨l, c, rfl⟩
  · simp [crcI]
  · rw [List.concat_eq_append]
    unfold crcI
    rw [List.foldl_append]
    exact xor_u32_range _ _

def crcN (l : List UInt8) : Nat := (bits .xor .u32 IntKind.u32.max (crcI l)).toNat
theorem crc_eq (l : List UInt8) : (crcN l : Int) = bits .xor .u32 IntKind.u32.max (crcI l) := Int.toNat_of_nonneg (xor_u32_range _ _).1
theorem crcN_lt (l : List UInt8) : crcN l < 4294967296 := by
  have h1 := crc_eq l
  have h2 := (xor_u32_range IntKind.u32.max (crcI l)).2
  omega

set_option maxHeartbeats 800000 in
set_option maxRecDepth 100000 in
theorem CRC_any (A : Option Addr) (c : Nat) (l : List UInt8) (w : World) (h : BytesIn w A l) (hl : l.length ≤ 4000000000) :
    Calls Tryd.prog 31 #[.slice A l.length c] w fun e w' => e = .returned (.int .u32 (crcN l)) ∧ Fr Nob w w' := by
  have H := Lib.hid h
  clear h
  go_enter Tryd.func31, Tryd.ntmps31
  go_wp2
  have HF0 : Hid (Fr Nob w (w.alloc (.cells (tabK 0).toArray 83))) := (Fr.refl _ w).alloc _
  have HB0 : Hid (Blk (w.alloc (.cells (tabK 0).toArray 83)) w.heap.size 83 (tabK 0).toArray) := Blk.new w _ _
  obtain ⟨g, hg⟩ : ∃ g, w.heap.size = g := ⟨_, rfl⟩
  have HG : Hid (w.heap.size ≤ g) := Nat.le_of_eq hg
  rw [hg] at HB0
  rw [hg]
  clear hg
  go_loopw [4, 5, 9] (fun _ _ i wr => ∃ (k : Nat), k ≤ 16 ∧ i = .int .i64 k ∧ Hid (Blk wr g 83 (tabK k).toArray) ∧ Hid (Fr Nob w wr)) (fun _ _ i _ => 16 - (intOf i).toNat)
  case atStart => exact ⟨0, by omega, rfl, HB0, HF0⟩
  case round =>
    clear HB0 HF0
    obtain ⟨k, hk, rfl, hB, hF⟩ := hrel
    by_cases hlt : k < 16
    · obtain ⟨v0, c0⟩ : ∃ v, wr.cell? ⟨g, k, none⟩ = some v := by
        rw [hB.out.cell, List.getElem?_toArray]; exact ⟨_, tabK_get k k hlt⟩
      have f0 := hB.out.frozen k
      have HS : Hid (Blk (wr.setCell ⟨g, k, none⟩ (.int .u32 (tabI k))) g 83 (tabK (k + 1)).toArray) := by
        show Blk _ _ _ _
        rw [← tabK_set k hlt]
        exact hB.out.set_ _ _
      have HF : Hid (Fr Nob w (wr.setCell ⟨g, k, none⟩ (.int .u32 (tabI k)))) := hF.out.setCell (p := ⟨g, k, none⟩) (.inl HG.out) _
      go_wp2
      obtain ⟨wo, hwo⟩ : ∃ wo : World, wo = wr := ⟨_, rfl⟩
      rw [← hwo] at c0 f0 HS HF
      go_loopw [5, 14] (fun x i wr => ∃ (j : Nat), j ≤ 4 ∧ i = .int .i64 j ∧ x = .int .u32 (tIter j k) ∧ wo = wr) (fun _ i _ => 4 - (intOf i).toNat)
      case atStart => exact ⟨0, by omega, rfl, rfl, hwo⟩
      case round =>
        clear hwo
        obtain ⟨j, hj, rfl, rfl, hwr⟩ := hrel
        subst hwr
        by_cases hlj : j < 4
        · have HT : Hid (bits .xor .u32 (tIter j k / 2) (bits .and .u32 3988292384 (-bits .and .u32 (tIter j k) 1 % 4294967296)) = tIter (j + 1) k) := rfl
          generalize tIter j k = y at *
          go_wp2
          go_roundw
          case rel => exact ⟨j + 1, by omega, by go_num, by rw [HT.out], by trivial⟩
          case measure => simp [intOf]; omega
        · obtain rfl : j = 4 := by omega
          have e4 : tIter 4 k = tabI k := rfl
          rw [e4]
          generalize tabI k = y at *
          go_wp2
          go_roundw
          case rel => exact ⟨k + 1, by omega, by go_num, HS, HF⟩
          case measure => simp [intOf]; omega
    · obtain rfl : k = 16 := by omega
      go_wp2
      go_loopw [6, 8, 30] (fun x _ i wr => ∃ (j : Nat), j ≤ l.length ∧ i = .int .i64 j ∧ x = .int .u32 (crcI (l.take j)) ∧ Hid (Blk wr g 83 (tabK 16).toArray) ∧ Hid (Fr Nob w wr)) (fun _ _ i _ => l.length - (intOf i).toNat)
      case atStart => exact ⟨0, by omega, rfl, rfl, hB, hF⟩
      case round =>
        clear hB hF
        obtain ⟨j, hj, rfl, rfl, hB, hF⟩ := hrel
        by_cases hlj : j < l.length
        · obtain ⟨kb, ko, hA, hc⟩ := H.out (by omega)
          subst hA
          have c0 : wr.cell? ⟨kb, ko + j, none⟩ = some (.int .u8 (l[j]).toNat) := by
            have h0 := hc j _ (List.getElem?_eq_getElem hlj)
            exact (hF.out.cell (cell_lt h0) (fun h => h)).trans h0
          clear hc
          have hs := crcI_take l j hlj
          have HS := Lib.hid hs
          have hr := crcI_range (l.take j)
          clear hs
          have hb := UInt8.toNat_lt l[j]
          have HT : Hid (∀ i : Int, 0 ≤ i → i < 16 → wr.cell? ⟨g, i.toNat, none⟩ = some (.int .u32 (tabI i.toNat))) := by
            intro i h0 h1
            rw [hB.out.cell, List.getElem?_toArray, tabK_get _ _ (by omega), if_pos (by omega)]
          generalize l[j] = b at *
          generalize crcI (l.take j) = x at *
          obtain ⟨x1, hx1⟩ : ∃ x1, bits .xor .u32 x b.toNat = x1 := ⟨_, rfl⟩
          have r1 : 0 ≤ x1 ∧ x1 < 4294967296 := by rw [← hx1]; exact xor_u32_range _ _
          have m1 := and_u32_15 x1 r1.1 r1.2
          have t1 := HT.out (x1 % 16) (by omega) (by omega)
          obtain ⟨x2, hx2⟩ : ∃ x2, bits .xor .u32 (x1 / 16) (tabI (x1 % 16).toNat) = x2 := ⟨_, rfl⟩
          have r2 : 0 ≤ x2 ∧ x2 < 4294967296 := by rw [← hx2]; exact xor_u32_range _ _
          have m2 := and_u32_15 x2 r2.1 r2.2
          have t2 := HT.out (x2 % 16) (by omega) (by omega)
          have HE : Hid (bits .xor .u32 (x2 / 16) (tabI (x2 % 16).toNat) = crcI (l.take (j + 1))) := by
            show _ = _
            rw [HS.out]
            unfold cstep chalf
            rw [hx1, hx2]
          clear HS
          go_wp2
          go_roundw
          case rel => exact ⟨j + 1, by omega, by go_num, by rw [HE.out], hB, hF⟩
          case measure => simp [intOf]; omega
        · obtain rfl : j = l.length := by omega
          rw [List.take_length]
          go_wp2
          go_ret
          exact ⟨by rw [crc_eq l]; rfl, hF.out⟩
end Go.Proofs.YtilclfeaolhoeaaDoor
