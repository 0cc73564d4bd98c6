/-
  Wal2, Wal3, Wal5, in one text.
-/
import Derived.Test.YtccmmnacejdeoaaGreatDoorMg05
import Derived.Test.YtccmmnacejdeoaaGreatDoorMg03
import Derived.Test.YtccmmnacejdeoaaGreatDoorMg04
import Derived.Test.YtccmmnacejdeoaaGreatDoorMg02
/-
  CRC: what it computes, as a function of the bytes.
-/
namespace Go.Proofs.YtccmmnacejdeoaaGreatDoor
set_option linter.unusedSimpArgs false
set_option linter.unusedVariables false
open Go.RowKit

theorem xor_u32_range (a b : Int) : 0 ≤ bits .xor .u32 a b ∧ bits .xor .u32 a b < 4294967296 := by
  show 0 ≤ IntKind.u32.wrap _ ∧ IntKind.u32.wrap _ < _
  rw [IntKind.wrap_u32]; omega
theorem and_u32_15 (a : Int) (h0 : 0 ≤ a) (h1 : a < 4294967296) : bits .and .u32 a 15 = a % 16 := by
  show IntKind.u32.wrap ((BitVec.ofInt 32 a &&& BitVec.ofInt 32 15).toNat : Nat) = _
  obtain ⟨n, rfl⟩ := Int.eq_ofNat_of_zero_le h0
  have e1 : (BitVec.ofInt 32 (n : Int)).toNat = n := by rw [BitVec.toNat_ofInt]; omega
  have e2 : (BitVec.ofInt 32 15).toNat = 2 ^ 4 - 1 := by decide
  rw [BitVec.toNat_and, e1, e2, Nat.and_two_pow_sub_one_eq_mod, IntKind.wrap_u32]
  omega

def tstep (y : Int) : Int := bits .xor .u32 (y / 2) (bits .and .u32 3988292384 (-bits .and .u32 y 1 % 4294967296))
def tIter : Nat → Int → Int
  | 0, y => y
  | n + 1, y => tstep (tIter n y)
def tabI (k : Nat) : Int := tIter 4 k
/-- The table, so far. -/
def tabK (k : Nat) : List Value := (List.range 16).map fun i => .int .u32 (if i < k then tabI i else 0)
theorem tabK_get (k i : Nat) (h : i < 16) : (tabK k)[i]? = some (.int .u32 (if i < k then tabI i else 0)) := by
  unfold tabK
  rw [List.getElem?_map, List.getElem?_range h]; rfl
theorem tabK_set (k : Nat) (hk : k < 16) : (tabK k).toArray.setIfInBounds k (.int .u32 (tabI k)) = (tabK (k + 1)).toArray := by
  rw [List.setIfInBounds_toArray]
  congr 1
  apply List.ext_getElem?
  intro i
  have hl : ∀ k, (tabK k).length = 16 := fun k => by simp [tabK]
  rw [List.getElem?_set, hl]
  by_cases h : i < 16
  · rw [tabK_get _ _ h, tabK_get _ _ h]
    by_cases e : k = i
    · subst e; rw [if_pos rfl, if_pos hk, if_pos (by omega)]
    · rw [if_neg e]
      by_cases h2 : i < k
      · rw [if_pos h2, if_pos (by omega)]
      · rw [if_neg h2, if_neg (by omega)]
  · rw [List.getElem?_eq_none (by rw [hl]; omega), List.getElem?_eq_none (by rw [hl]; omega), if_neg (by omega)]

/-- A byte's half. -/
def chalf (w : Int) : Int := bits .xor .u32 (w / 16) (tabI (w % 16).toNat)
def cstep (w : Int) (b : UInt8) : Int := chalf (chalf (bits .xor .u32 w b.toNat))
def crcI (l : List UInt8) : Int := l.foldl cstep 4294967295
theorem crcI_take (l : List UInt8) (k : Nat) (h : k < l.length) : crcI (l.take (k + 1)) = cstep (crcI (l.take k)) l[k] := by
  unfold crcI
  rw [List.take_add_one, List.getElem?_eq_getElem h, Option.toList_some, List.foldl_append]; rfl
theorem crcI_range (l : List UInt8) : 0 ≤ crcI l ∧ crcI l < 4294967296 := by
  rcases List.eq_nil_or_concat l with rfl | ⟨l, c, rfl⟩
  · simp [crcI]
  · rw [List.concat_eq_append]
    unfold crcI
    rw [List.foldl_append]
    exact xor_u32_range _ _

def crcN (l : List UInt8) : Nat := (bits .xor .u32 IntKind.u32.max (crcI l)).toNat
theorem crc_eq (l : List UInt8) : (crcN l : Int) = bits .xor .u32 IntKind.u32.max (crcI l) := Int.toNat_of_nonneg (xor_u32_range _ _).1
theorem crcN_lt (l : List UInt8) : crcN l < 4294967296 := by
  have h1 := crc_eq l
  have h2 := (xor_u32_range IntKind.u32.max (crcI l)).2
  omega

set_option maxHeartbeats 800000 in
set_option maxRecDepth 100000 in
theorem CRC_any (A : Option Addr) (c : Nat) (l : List UInt8) (w : World) (h : BytesIn w A l) (hl : l.length ≤ 4000000000) :
    Calls Tryz.prog 89 #[.slice A l.length c] w fun e w' => e = .returned (.int .u32 (crcN l)) ∧ Fr Nob w w' := by
  have H := Lib.hid h
  clear h
  go_enter Tryz.func89, Tryz.ntmps89
  go_wp2
  have HF0 : Hid (Fr Nob w (w.alloc (.cells (tabK 0).toArray 151))) := (Fr.refl _ w).alloc _
  have HB0 : Hid (Blk (w.alloc (.cells (tabK 0).toArray 151)) w.heap.size 151 (tabK 0).toArray) := Blk.new w _ _
  obtain ⟨g, hg⟩ : ∃ g, w.heap.size = g := ⟨_, rfl⟩
  have HG : Hid (w.heap.size ≤ g) := Nat.le_of_eq hg
  rw [hg] at HB0
  rw [hg]
  clear hg
  go_loopw [4, 5, 9] (fun _ _ i wr => ∃ (k : Nat), k ≤ 16 ∧ i = .int .i64 k ∧ Hid (Blk wr g 151 (tabK k).toArray) ∧ Hid (Fr Nob w wr)) (fun _ _ i _ => 16 - (intOf i).toNat)
  case atStart => exact ⟨0, by omega, rfl, HB0, HF0⟩
  case round =>
    clear HB0 HF0
    obtain ⟨k, hk, rfl, hB, hF⟩ := hrel
    by_cases hlt : k < 16
    · obtain ⟨v0, c0⟩ : ∃ v, wr.cell? ⟨g, k, none⟩ = some v := by
        rw [hB.out.cell, List.getElem?_toArray]; exact ⟨_, tabK_get k k hlt⟩
      have f0 := hB.out.frozen k
      have HS : Hid (Blk (wr.setCell ⟨g, k, none⟩ (.int .u32 (tabI k))) g 151 (tabK (k + 1)).toArray) := by
        show Blk _ _ _ _
        rw [← tabK_set k hlt]
        exact hB.out.set_ _ _
      have HF : Hid (Fr Nob w (wr.setCell ⟨g, k, none⟩ (.int .u32 (tabI k)))) := hF.out.setCell (p := ⟨g, k, none⟩) (.inl HG.out) _
      go_wp2
      obtain ⟨wo, hwo⟩ : ∃ wo : World, wo = wr := ⟨_, rfl⟩
      rw [← hwo] at c0 f0 HS HF
      go_loopw [5, 14] (fun x i wr => ∃ (j : Nat), j ≤ 4 ∧ i = .int .i64 j ∧ x = .int .u32 (tIter j k) ∧ wo = wr) (fun _ i _ => 4 - (intOf i).toNat)
      case atStart => exact ⟨0, by omega, rfl, rfl, hwo⟩
      case round =>
        clear hwo
        obtain ⟨j, hj, rfl, rfl, hwr⟩ := hrel
        subst hwr
        by_cases hlj : j < 4
        · have HT : Hid (bits .xor .u32 (tIter j k / 2) (bits .and .u32 3988292384 (-bits .and .u32 (tIter j k) 1 % 4294967296)) = tIter (j + 1) k) := rfl
          generalize tIter j k = y at *
          go_wp2
          go_roundw
          case rel => exact ⟨j + 1, by omega, by go_num, by rw [HT.out], by trivial⟩
          case measure => simp [intOf]; omega
        · obtain rfl : j = 4 := by omega
          have e4 : tIter 4 k = tabI k := rfl
          rw [e4]
          generalize tabI k = y at *
          go_wp2
          go_roundw
          case rel => exact ⟨k + 1, by omega, by go_num, HS, HF⟩
          case measure => simp [intOf]; omega
    · obtain rfl : k = 16 := by omega
      go_wp2
      go_loopw [6, 8, 30] (fun x _ i wr => ∃ (j : Nat), j ≤ l.length ∧ i = .int .i64 j ∧ x = .int .u32 (crcI (l.take j)) ∧ Hid (Blk wr g 151 (tabK 16).toArray) ∧ Hid (Fr Nob w wr)) (fun _ _ i _ => l.length - (intOf i).toNat)
      case atStart => exact ⟨0, by omega, rfl, rfl, hB, hF⟩
      case round =>
        clear hB hF
        obtain ⟨j, hj, rfl, rfl, hB, hF⟩ := hrel
        by_cases hlj : j < l.length
        · obtain ⟨kb, ko, hA, hc⟩ := H.out (by omega)
          subst hA
          have c0 : wr.cell? ⟨kb, ko + j, none⟩ = some (.int .u8 (l[j]).toNat) := by
            have h0 := hc j _ (List.getElem?_eq_getElem hlj)
            exact (hF.out.cell (cell_lt h0) (fun h => h)).trans h0
          clear hc
          have hs := crcI_take l j hlj
          have HS := Lib.hid hs
          have hr := crcI_range (l.take j)
          clear hs
          have hb := UInt8.toNat_lt l[j]
          have HT : Hid (∀ i : Int, 0 ≤ i → i < 16 → wr.cell? ⟨g, i.toNat, none⟩ = some (.int .u32 (tabI i.toNat))) := by
            intro i h0 h1
            rw [hB.out.cell, List.getElem?_toArray, tabK_get _ _ (by omega), if_pos (by omega)]
          generalize l[j] = b at *
          generalize crcI (l.take j) = x at *
          obtain ⟨x1, hx1⟩ : ∃ x1, bits .xor .u32 x b.toNat = x1 := ⟨_, rfl⟩
          have r1 : 0 ≤ x1 ∧ x1 < 4294967296 := by rw [← hx1]; exact xor_u32_range _ _
          have m1 := and_u32_15 x1 r1.1 r1.2
          have t1 := HT.out (x1 % 16) (by omega) (by omega)
          obtain ⟨x2, hx2⟩ : ∃ x2, bits .xor .u32 (x1 / 16) (tabI (x1 % 16).toNat) = x2 := ⟨_, rfl⟩
          have r2 : 0 ≤ x2 ∧ x2 < 4294967296 := by rw [← hx2]; exact xor_u32_range _ _
          have m2 := and_u32_15 x2 r2.1 r2.2
          have t2 := HT.out (x2 % 16) (by omega) (by omega)
          have HE : Hid (bits .xor .u32 (x2 / 16) (tabI (x2 % 16).toNat) = crcI (l.take (j + 1))) := by
            show _ = _
            rw [HS.out]
            unfold cstep chalf
            rw [hx1, hx2]
          clear HS
          go_wp2
          go_roundw
          case rel => exact ⟨j + 1, by omega, by go_num, by rw [HE.out], hB, hF⟩
          case measure => simp [intOf]; omega
        · obtain rfl : j = l.length := by omega
          rw [List.take_length]
          go_wp2
          go_ret
          exact ⟨by rw [crc_eq l]; rfl, hF.out⟩
end Go.Proofs.YtccmmnacejdeoaaGreatDoor

/-
  The bytes of a sector and of a head of a log.
-/
namespace Go.Proofs.YtccmmnacejdeoaaGreatDoor
set_option linter.unusedSimpArgs false
set_option linter.unusedVariables false
open Go.RowKit

def sectA (no : Nat) : List UInt8 := splice (zeros 64) 0 (putB 5 no)
theorem sectA_length (no : Nat) : (sectA no).length = 64 := by
  unfold sectA; rw [length_splice _ _ _ (by rw [putB_length, zeros_length]; omega), zeros_length]
def sectL (no life : Nat) : List UInt8 := splice (sectA no) 5 (putB 6 life)
theorem sectL_length (no life : Nat) : (sectL no life).length = 64 := by
  unfold sectL; rw [length_splice _ _ _ (by rw [putB_length, sectA_length]; omega), sectA_length]
def sectN (no life n : Nat) : List UInt8 := (sectL no life).set 11 (UInt8.ofNat n)
theorem sectN_length (no life n : Nat) : (sectN no life n).length = 64 := by
  unfold sectN; rw [List.length_set, sectL_length]
/-- A sector's bytes ahead of its sum, and with it. -/
def sectPre (no life : Nat) (b : List UInt8) : List UInt8 := splice (sectN no life b.length) 16 b
def sectB (no life : Nat) (b : List UInt8) : List UInt8 := splice (sectPre no life b) 12 (putB 4 (crcN (sectPre no life b)))
theorem sectPre_length (no life : Nat) (b : List UInt8) (h : b.length ≤ 48) : (sectPre no life b).length = 64 := by
  unfold sectPre; rw [length_splice _ _ _ (by rw [sectN_length]; omega), sectN_length]
theorem sectB_length (no life : Nat) (b : List UInt8) (h : b.length ≤ 48) : (sectB no life b).length = 64 := by
  unfold sectB
  rw [length_splice _ _ _ (by rw [sectPre_length _ _ _ h, putB_length]; omega), sectPre_length _ _ _ h]
theorem crc64 {w : World} {g : Nat} {t : List UInt8} (h : Blk w g 5 (bts t).toArray) (hl : t.length = 64) :
    Calls Tryz.prog 89 #[.slice (some ⟨g, 0, none⟩) 64 64] w fun e w' => e = .returned (.int .u32 (crcN t)) ∧ Fr Nob w w' := by
  have := CRC_any (some ⟨g, 0, none⟩) 64 t w (bytesIn_of h) (by omega)
  rwa [hl] at this

set_option maxHeartbeats 800000 in
set_option maxRecDepth 100000 in
theorem sector_any (no life : Nat) (A : Option Addr) (c : Nat) (b : List UInt8) (w : World) (h : BytesIn w A b) (hl : b.length ≤ 48) (hno : no < 18446744073709551616) (hlife : life < 18446744073709551616) :
    Calls Tryz.prog 73 #[.int .u64 no, .int .u64 life, .slice A b.length c] w fun e w' => e = .returned (.slice (some ⟨w.heap.size, 0, none⟩) 64 64) ∧ Blk w' w.heap.size 5 (bts (sectB no life b)).toArray ∧ Fr Nob w w' := by
  have hmk := make64
  have H := Lib.hid h
  clear h
  go_enter Tryz.func73, Tryz.ntmps73
  go_wp2_with fail
  have HB0 : Hid (Blk (w.alloc (.cells zeros64 5)) w.heap.size 5 (bts (zeros 64)).toArray) := by
    show Blk _ _ _ _
    rw [show (bts (zeros 64)).toArray = zeros64 from zeros64_eq.symm]; exact Blk.new w _ _
  have HF0 : Hid (Fr Nob w (w.alloc (.cells zeros64 5))) := (Fr.refl _ w).alloc _
  refine (put_any w.heap.size 0 5 64 (zeros 64) no _ HB0.out (by simp [zeros]) hno (by omega)).mono ?_
  rintro e w1 ⟨rfl, hb1, hf1⟩
  have HB1 : Hid (Blk w1 w.heap.size 5 (bts (sectA no)).toArray) := hb1
  have HF1 : Hid (Fr Nob w w1) := HF0.out.step hf1 (fun i hi e => by omega)
  clear hb1 hf1
  go_wp2_with fail
  refine (put_any w.heap.size 5 6 59 (sectA no) life _ HB1.out (by rw [sectA_length]; omega) hlife (by omega)).mono ?_
  rintro e w2 ⟨rfl, hb2, hf2⟩
  have HB2 : Hid (Blk w2 w.heap.size 5 (bts (sectL no life)).toArray) := hb2
  have HF2 : Hid (Fr Nob w w2) := HF1.out.step hf2 (fun i hi e => by omega)
  clear hb2 hf2
  have hz2 := HB2.out.lt
  have hz : w.heap.size ≤ w2.heap.size := HF2.out.size
  obtain ⟨g, hg⟩ : ∃ g, w.heap.size = g := ⟨_, rfl⟩
  have HG : Hid (w.heap.size ≤ g) := Nat.le_of_eq hg
  have HGe := Lib.hid hg
  rw [hg] at HB2 hz2 ⊢
  have HH : Hid (Blk (w2.setCell ⟨g, 11, none⟩ (.int .u8 (UInt8.ofNat b.length).toNat)) g 5 (bts (sectN no life b.length)).toArray) := by
    show Blk _ _ _ _
    unfold sectN
    rw [← bts_set]
    exact HB2.out.set_ 11 _
  have hbl : ((UInt8.ofNat b.length).toNat : Int) = b.length := by simp; omega
  rw [hbl] at HH
  have HF3 : Hid (Fr Nob w (w2.setCell ⟨g, 11, none⟩ (.int .u8 b.length))) := HF2.out.setCell (p := ⟨g, 11, none⟩) (.inl HG.out) _
  obtain ⟨v0, c11⟩ : ∃ v, w2.cell? ⟨g, 11, none⟩ = some v := by
    rw [HB2.out.cell]
    exact ⟨_, by rw [List.getElem?_toArray]; exact List.getElem?_eq_getElem (by rw [bts_length, sectL_length]; omega)⟩
  have f11 := HB2.out.frozen 11
  clear hg hbl HB0 HF0 HB1 HF1 HB2
  have hinf : (Tryz.prog.info? 5).map (·.size) = some 1 := by kernel_rfl
  have hsrc : Hid (0 < (bts b).length → ∃ ad, A = some ad ∧ ∀ j v, (bts b)[j]? = some v → (w2.setCell ⟨g, 11, none⟩ (.int .u8 b.length)).cell? (ad.add j) = some v) := by
    intro h0
    obtain ⟨kb, ko, e, hc⟩ := H.out (by rw [bts_length] at h0; exact h0)
    refine ⟨_, e, fun j v hv => ?_⟩
    rw [show (⟨kb, ko, none⟩ : Addr).add j = ⟨kb, ko + j, none⟩ from by simp [Addr.add]]
    rw [bts_get] at hv
    cases hb : b[j]? with
    | none => rw [hb] at hv; cases hv
    | some x =>
      rw [hb] at hv
      injection hv with hv
      subst hv
      have h1 := hc j x hb
      exact (HF3.out.cell (p := ⟨kb, ko + j, none⟩) (cell_lt h1) (fun h => h)).trans h1
  have hn : Hid ((bts b).length = Nat.min b.length 48) := by show _ = _; rw [bts_length]; exact (Nat.min_eq_left hl).symm
  have hfit : Hid (16 + (bts b).length ≤ (bts (sectN no life b.length)).length) := by show _ ≤ _; rw [bts_length, bts_length, sectN_length]; omega
  have HHe : Hid ((w2.setCell ⟨g, 11, none⟩ (.int .u8 b.length)).heap[g]? = some (.cells (bts (sectN no life b.length)).toArray 5 (0, 0))) := HH.out
  go_wp2_with (with_reducible refine wpList_copy_exact rfl (.tmp 23) (.tmp 24) 38 38 rfl 5 Tryz.underlying38 hinf (some ⟨g, 16, none⟩) A 48 48 b.length c rfl rfl g 16 (bts (sectN no life b.length)) 5 HHe.out (bts b) hn.out (fun h => ⟨rfl, hsrc.out h⟩) hfit.out (bts_one b) ?_; intro w4 hg4 hgr4; have HG4 := Lib.hid hg4; have HR4 := Lib.hid hgr4; clear hg4 hgr4)
  have HB4 : Hid (Blk w4 g 5 (bts (sectPre no life b)).toArray) := by
    show Blk _ _ _ _
    have := HG4.out
    rwa [← bts_splice] at this
  have HF4 : Hid (Fr Nob w w4) := HF3.out.grown HR4.out (fun k hk => .inl (by injection hk with hk; rw [← hk]; exact HG.out))
  have hl4 := sectPre_length no life b hl
  have hcr := crcN_lt (sectPre no life b)
  have HQ : Hid (splice (sectPre no life b) 12 (putB 4 (crcN (sectPre no life b))) = sectB no life b) := rfl
  clear HG4 HR4 HH HHe HF3 hsrc hn hfit c11 f11
  have HL4 := Lib.hid hl4
  clear hl4
  generalize sectPre no life b = t at *
  refine wp_region_quietly (fun W => Fr Nob w W) (by kernel_rfl) ?_
  have hS : Fr Nob w w4.drew := HF4.out.drew
  refine wpAnyH_op (i := 0) (some 26) (v := ?v0) (a' := ?a0) rfl rfl (by kernel_rfl) (by kernel_rfl) (by kernel_rfl) (fun _ _ _ h => h) rfl (fun wz hwz => ?h0) ?b0 hS ?_
  case h0 => (go_simp; try with_reducible rfl)
  case b0 => (simp only [Act.put, List.setIfInBounds_toArray, List.set_cons_zero, List.set_cons_succ]; rfl)
  refine wpAnyH_op (i := 1) (some 27) (v := ?v1) (a' := ?a1) rfl rfl (by kernel_rfl) (by kernel_rfl) (by kernel_rfl) (fun _ _ _ h => h) rfl (fun wz hwz => ?h1) ?b1 hS ?_
  case h1 => (go_simp; try with_reducible rfl)
  case b1 => (simp only [Act.put, List.setIfInBounds_toArray, List.set_cons_zero, List.set_cons_succ]; rfl)
  refine wpAnyH_op (i := 2) (some 28) (v := ?v2) (a' := ?a2) rfl rfl (by kernel_rfl) (by kernel_rfl) (by kernel_rfl) (fun _ _ _ h => h) rfl (fun wz hwz => ?h2) ?b2 hS ?_
  case h2 => (go_simp; try with_reducible rfl)
  case b2 => (simp only [Act.put, List.setIfInBounds_toArray, List.set_cons_zero, List.set_cons_succ]; rfl)
  refine wpAnyH_call (i := 3) rfl (by kernel_rfl) rfl ?run3 (crc64 HB4.out.drew HL4.out) ?_
  case run3 => go_simp
  rintro e w5 ⟨rfl, hf5⟩
  have hS5 : Fr Nob w w5 := hS.trans hf5
  have HB5 : Hid (Blk w5 g 5 (bts t).toArray) := HB4.out.drew.fr hf5 (fun h => h)
  clear hf5
  refine ⟨_, rfl, hS5, ?_⟩
  refine wpAnyH_at (some 29) (a' := ?a3) rfl ?b3 ?_
  case b3 => (simp only [Act.put, List.setIfInBounds_toArray, List.set_cons_zero, List.set_cons_succ]; rfl)
  refine wpAnyH_op (i := 4) (some 30) (v := (.int .u64 (crcN t : Nat))) (a' := ?a4) rfl rfl (by kernel_rfl) (by kernel_rfl) (by kernel_rfl) (fun _ _ _ h => h) rfl (fun wz hwz => ?h4) ?b4 hS5 ?_
  case h4 => (have hcr2 := wrap_nat (n := crcN t) (by omega); go_simp; try with_reducible rfl)
  case b4 => (simp only [Act.put, List.setIfInBounds_toArray, List.set_cons_zero, List.set_cons_succ]; rfl)
  refine wpAnyH_call (i := 5) rfl (by kernel_rfl) rfl ?run5 (put_any g 12 4 52 t (crcN t) w5 HB5.out (by rw [HL4.out]; omega) (by omega) (by omega)) ?_
  case run5 => go_simp
  rintro e w6 ⟨rfl, hb6, hf6⟩
  have hS6 : Fr Nob w w6 := hS5.step hf6 (fun i hi e => by have := HG.out; omega)
  rw [HQ.out] at hb6
  have HB6 := Lib.hid hb6
  clear hb6 hf6
  refine ⟨_, rfl, hS6, ?_⟩
  refine wpAnyH_at (some 31) (a' := ?a5) rfl ?b5 ?_
  case b5 => (simp only [Act.put, List.setIfInBounds_toArray, List.set_cons_zero, List.set_cons_succ]; rfl)
  refine wpAnyH_done (by kernel_rfl) ?_ _
  dsimp only [OnlyNormal]
  go_wp2
  go_ret
  rw [HGe.out]
  exact ⟨rfl, HB6.out, hS6⟩
end Go.Proofs.YtccmmnacejdeoaaGreatDoor

/-
  A record's frame.
-/
namespace Go.Proofs.YtccmmnacejdeoaaGreatDoor
set_option linter.unusedSimpArgs false
set_option linter.unusedVariables false
open Go.RowKit

def fraN (m : Nat) : List UInt8 := splice (zeros 16) 4 (putB 4 m)
def fraH (lsn m : Nat) : List UInt8 := splice (fraN m) 8 (putB 8 lsn)
def fraPre (lsn : Nat) (rec : List UInt8) : List UInt8 := fraH lsn rec.length ++ rec
def fraB (lsn : Nat) (rec : List UInt8) : List UInt8 := splice (fraPre lsn rec) 0 (putB 4 (crcN ((fraPre lsn rec).drop 4)))
theorem fraN_length (m : Nat) : (fraN m).length = 16 := by unfold fraN; rw [length_splice _ _ _ (by rw [putB_length, zeros_length]; omega), zeros_length]
theorem fraH_length (lsn m : Nat) : (fraH lsn m).length = 16 := by unfold fraH; rw [length_splice _ _ _ (by rw [putB_length, fraN_length]; omega), fraN_length]
theorem fraPre_length (lsn : Nat) (rec : List UInt8) : (fraPre lsn rec).length = 16 + rec.length := by unfold fraPre; rw [List.length_append, fraH_length]
theorem fraB_length (lsn : Nat) (rec : List UInt8) : (fraB lsn rec).length = 16 + rec.length := by
  unfold fraB; rw [length_splice _ _ _ (by rw [putB_length, fraPre_length]; omega), fraPre_length]

theorem splice_take {α : Type} (L cs : List α) (o k : Nat) (h : o + cs.length ≤ k) (hk : k ≤ L.length) : (splice L o cs).take k = splice (L.take k) o cs := by
  apply List.ext_getElem?
  intro i
  rw [splice_get _ _ _ _ (by rw [List.length_take]; omega)]
  by_cases hi : i < k
  · rw [List.getElem?_take_of_lt hi, splice_get _ _ _ _ (by omega), List.getElem?_take_of_lt hi]
  · rw [List.getElem?_eq_none (by rw [List.length_take]; omega), if_neg (by omega), if_neg (by omega), List.getElem?_eq_none (by rw [List.length_take]; omega)]

set_option maxHeartbeats 1600000 in
set_option maxRecDepth 100000 in
theorem frame_any (lsn : Nat) (a : Addr) (c : Nat) (rec : List UInt8) (w : World) (h : BytesIn w (some a) rec) (hA : a.block < w.heap.size) (hl : rec.length ≤ 3000000000) (h1 : lsn < 18446744073709551616) :
    Calls Tryz.prog 72 #[.int .u64 lsn, .slice (some a) rec.length c] w fun e w' => ∃ v', e = .returned v' ∧ w'.ownsRow w.heap.size 5 1 v' (16 + rec.length) (bts (fraB lsn rec)) ∧ Fr Nob w w' := by
  obtain ⟨i0, hi0, hz0, hz1, hz2⟩ := info_parts info_u8
  have hmk : (Instr.makeSlice 38 (.int .i64 16) (.int .i64 (16 + (rec.length : Int)))).run Tryz.prog w = .ok (.slice (some ⟨w.heap.size, 0, none⟩) 16 (16 + rec.length)) (w.alloc (.cells (bts (zeros (16 + rec.length))).toArray 5)) := by
    have := run_make (P := Tryz.prog) w 38 5 i0 (.int .u8 0) Tryz.underlying38 hi0 hz0 .i64 .i64 16 (16 + (rec.length : Int)) (by omega) (by omega) (by rw [hz2]; omega) (by omega)
    rw [this, hz1, show (Value.int .u8 0).cells = #[Value.int .u8 0] from rfl, madeCells_toArray]
    have e1 : (16 + (rec.length : Int)).toNat = 16 + rec.length := by omega
    rw [e1, Nat.mul_one]
    simp [bts, zeros]
  have H := Lib.hid h
  clear h
  go_enter Tryz.func72, Tryz.ntmps72
  go_wp2_with fail
  have HB0 : Hid (Blk (w.alloc (.cells (bts (zeros (16 + rec.length))).toArray 5)) w.heap.size 5 (bts (zeros (16 + rec.length))).toArray) := Blk.new w _ _
  have HF0 : Hid (Fr Nob w (w.alloc (.cells (bts (zeros (16 + rec.length))).toArray 5))) := (Fr.refl _ w).alloc _
  refine (put_any w.heap.size 4 4 (16 + rec.length - 4) (zeros (16 + rec.length)) rec.length _ HB0.out (by rw [zeros_length]; omega) (by omega) (by omega)).mono ?_
  rintro e w1 ⟨rfl, hb1, hf1⟩
  have HB1 := Lib.hid hb1
  have HF1 : Hid (Fr Nob w w1) := HF0.out.step hf1 (fun i hi e => by omega)
  clear hb1 hf1 HB0 HF0
  have hl1 : (splice (zeros (16 + rec.length)) 4 (putB 4 rec.length)).length = 16 + rec.length := by rw [length_splice _ _ _ (by rw [putB_length, zeros_length]; omega), zeros_length]
  have HL1 := Lib.hid hl1
  clear hl1
  go_wp2_with fail
  refine (put_any w.heap.size 8 8 (16 + rec.length - 8) _ lsn _ HB1.out (by rw [HL1.out]; omega) h1 (by omega)).mono ?_
  rintro e w2 ⟨rfl, hb2, hf2⟩
  have HF2 : Hid (Fr Nob w w2) := HF1.out.step hf2 (fun i hi e => by omega)
  have HO2 : Hid (w2.ownsRow w.heap.size 5 1 (.slice (some ⟨w.heap.size, 0, none⟩) 16 (16 + rec.length)) 16 (bts (fraH lsn rec.length))) := by
    refine ⟨by rw [bts_length, fraH_length], .inr ⟨w.heap.size, 16 + rec.length, _, rfl, Nat.le_refl _, hb2, by omega, by unfold maxLen; omega, ?_, ?_⟩⟩
    · rw [List.size_toArray, bts_length, length_splice _ _ _ (by rw [HL1.out, putB_length]; omega), HL1.out]; omega
    · rw [Nat.mul_one]
      show (bts _).take 16 = _
      rw [bts_splice, bts_splice, splice_take _ _ _ _ (by rw [bts_length, putB_length]; omega) (by rw [length_splice _ _ _ (by rw [bts_length, bts_length, putB_length, zeros_length]; omega), bts_length, zeros_length]; omega),
        splice_take _ _ _ _ (by rw [bts_length, putB_length]; omega) (by rw [bts_length, zeros_length]; omega)]
      unfold fraH fraN
      rw [bts_splice, bts_splice]
      congr 2
      simp [bts, zeros]
  clear hb2 hf2 HB1 HF1 HL1
  have hsz2 := HF2.out.size
  have hc2 : Hid (∀ j u, (bts rec)[j]? = some u → w2.cell? (a.add j) = some u) := by
    intro j u hu
    rw [bts_get] at hu
    cases hb : rec[j]? with
    | none => rw [hb] at hu; cases hu
    | some x =>
      rw [hb] at hu
      injection hu with hu
      subst hu
      obtain ⟨kb, ko, e, hc⟩ := H.out (by have := (List.getElem?_eq_some_iff.1 hb).1; omega)
      injection e with e
      subst e
      have h0 := hc j x hb
      rw [show (⟨kb, ko, none⟩ : Addr).add j = ⟨kb, ko + j, none⟩ from by simp [Addr.add]]
      exact (HF2.out.cell (p := ⟨kb, ko + j, none⟩) (cell_lt h0) (fun h => h)).trans h0
  have c1 : Hid ((bts rec).length = rec.length * 1) := by show _ = _; rw [bts_length]; omega
  have c3 : Hid (16 + rec.length ≤ maxLen) := by show _ ≤ _; unfold maxLen; omega
  go_wp2_with (at_builtin; go_must (refine wpList_append_own_at _ rfl (.tmp 20) (.tmp 21) 38 rfl w.heap.size 5 i0 (.int .u8 0) 1 1 Tryz.underlying38 hi0 hz0 hz1 hz2 rfl (by decide) (.slice (some ⟨w.heap.size, 0, none⟩) 16 (16 + rec.length)) 16 (bts (fraH lsn rec.length)) rfl HO2.out a rec.length c (bts rec) rfl c1.out hc2.out (bts_one rec) c3.out (by omega) hsz2 ?_); intro v' w4 hown hg hn0 hat; obtain ⟨g4, cap4, hv4, hg4, hg4l⟩ := hown.form (by omega); subst hv4; have HO4 := Lib.hid hown; have HR4 := Lib.hid hg; clear hown hg hn0 hat)
  have HF4 : Hid (Fr Nob w w4) := HF2.out.grown HR4.out (fun k hk => .inl (by have : w.heap.size = k := (by simpa [Value.ownBlock] using hk); omega))
  obtain ⟨cur, hh4, hcl, hct⟩ : ∃ cur : List Value, Blk w4 g4 5 cur.toArray ∧ 16 + rec.length ≤ cur.length ∧ cap4 = cur.length ∧ cur.take (16 + rec.length) = bts (fraPre lsn rec) := by
    rcases HO4.out.2 with ⟨e, _⟩ | ⟨g', cap', cur, e, _, hh, hn, _, hs, ht⟩
    · cases e
    · injection e with e1 e2 e3
      injection e1 with e1
      injection e1 with e1
      subst e1 e3
      refine ⟨cur.toList, by simpa [Blk] using hh, by simp; omega, by simp; omega, ?_⟩
      rw [Nat.mul_one] at ht
      rw [ht]
      unfold fraPre
      rw [bts_append]
  obtain ⟨hcap, hct⟩ := hct
  have HB4 := Lib.hid hh4
  have HT4 := Lib.hid hct
  have hm4 : cap4 ≤ maxLen := by
    rcases HO4.out.2 with ⟨e, _⟩ | ⟨g', cap', cur, e, _, _, _, hm, _, _⟩
    · cases e
    · injection e with _ _ e3
      omega
  have hlp := fraPre_length lsn rec
  have hcr := crcN_lt ((fraPre lsn rec).drop 4)
  have HQ : Hid (splice (fraPre lsn rec) 0 (putB 4 (crcN ((fraPre lsn rec).drop 4))) = fraB lsn rec) := rfl
  have HLP := Lib.hid hlp
  clear hh4 hct HO2 HO4 HR4 hc2 c1 c3 hmk hlp
  generalize fraPre lsn rec = t at *
  have HCRC : Hid (∀ W, Blk W g4 5 cur.toArray → Calls Tryz.prog 89 #[.slice (some ⟨g4, 4, none⟩) (16 + rec.length - 4) (cap4 - 4)] W fun e w' => e = .returned (.int .u32 (crcN (t.drop 4))) ∧ Fr Nob W w') := by
    intro W hW
    have hb : BytesIn W (some ⟨g4, 4, none⟩) (t.drop 4) := fun _ => ⟨g4, 4, rfl, fun j x hx => by
      rw [hW.cell, List.getElem?_toArray]
      rw [List.getElem?_drop] at hx
      have hj := (List.getElem?_eq_some_iff.1 hx).1
      have h2 : (cur.take (16 + rec.length))[4 + j]? = some (.int .u8 x.toNat) := by rw [HT4.out, bts_get, hx]; rfl
      have := HLP.out
      rwa [List.getElem?_take_of_lt (by omega)] at h2⟩
    have := CRC_any (some ⟨g4, 4, none⟩) (cap4 - 4) (t.drop 4) W hb (by rw [List.length_drop, HLP.out]; omega)
    rwa [List.length_drop, HLP.out] at this
  unfold maxLen at hm4
  subst hcap
  have hc4 : (4 : Int) ≤ (cur.length : Int) := by omega
  have hc7 : ¬ cur.length = 4 := by omega
  have hc5 : (4 : Int) ≤ 16 + (rec.length : Int) := by omega
  have hc6 : (16 : Int) + (rec.length : Int) ≤ (cur.length : Int) := by omega
  generalize crcN (t.drop 4) = cr at *
  refine wp_region_quietly (fun W => Fr Nob w W) (by kernel_rfl) ?_
  have hS : Fr Nob w w4.drew := HF4.out.drew
  refine wpAnyH_op (i := 0) (some 23) (v := ?v0) (a' := ?a0) rfl rfl (by kernel_rfl) (by kernel_rfl) (by kernel_rfl) (fun _ _ _ h => h) rfl (fun wz hwz => ?h0) ?b0 hS ?_
  case h0 => (go_simp; try with_reducible rfl)
  case b0 => (simp only [Act.put, List.setIfInBounds_toArray, List.set_cons_zero, List.set_cons_succ]; rfl)
  refine wpAnyH_op (i := 1) (some 24) (v := ?v1) (a' := ?a1) rfl rfl (by kernel_rfl) (by kernel_rfl) (by kernel_rfl) (fun _ _ _ h => h) rfl (fun wz hwz => ?h1) ?b1 hS ?_
  case h1 => (go_simp; try with_reducible rfl)
  case b1 => (simp only [Act.put, List.setIfInBounds_toArray, List.set_cons_zero, List.set_cons_succ]; rfl)
  refine wpAnyH_op (i := 2) (some 25) (v := ?v2) (a' := ?a2) rfl rfl (by kernel_rfl) (by kernel_rfl) (by kernel_rfl) (fun _ _ _ h => h) rfl (fun wz hwz => ?h2) ?b2 hS ?_
  case h2 => (go_simp; try with_reducible rfl)
  case b2 => (simp only [Act.put, List.setIfInBounds_toArray, List.set_cons_zero, List.set_cons_succ]; rfl)
  refine wpAnyH_op (i := 3) (some 26) (v := ?v3) (a' := ?a3) rfl rfl (by kernel_rfl) (by kernel_rfl) (by kernel_rfl) (fun _ _ _ h => h) rfl (fun wz hwz => ?h3) ?b3 hS ?_
  case h3 => (go_simp; try with_reducible rfl)
  case b3 => (simp only [Act.put, List.setIfInBounds_toArray, List.set_cons_zero, List.set_cons_succ]; rfl)
  refine wpAnyH_call (i := 4) rfl (by kernel_rfl) rfl ?run4 (HCRC.out w4.drew HB4.out.drew) ?_
  case run4 => go_simp
  rintro e w5 ⟨rfl, hf5⟩
  have hS5 : Fr Nob w w5 := hS.trans hf5
  have HB5 : Hid (Blk w5 g4 5 cur.toArray) := HB4.out.drew.fr hf5 (fun h => h)
  clear hf5
  refine ⟨_, rfl, hS5, ?_⟩
  refine wpAnyH_at (some 27) (a' := ?a4) rfl ?b4 ?_
  case b4 => (simp only [Act.put, List.setIfInBounds_toArray, List.set_cons_zero, List.set_cons_succ]; rfl)
  refine wpAnyH_op (i := 5) (some 28) (v := (.int .u64 (cr : Nat))) (a' := ?a5) rfl rfl (by kernel_rfl) (by kernel_rfl) (by kernel_rfl) (fun _ _ _ h => h) rfl (fun wz hwz => ?h5) ?b5 hS5 ?_
  case h5 => (have hcr2 := wrap_nat (n := cr) (by omega); go_simp; try with_reducible rfl)
  case b5 => (simp only [Act.put, List.setIfInBounds_toArray, List.set_cons_zero, List.set_cons_succ]; rfl)
  refine wpAnyH_call (i := 6) rfl (by kernel_rfl) rfl ?run6 (put_at g4 0 4 cur.length cur cr w5 HB5.out (by omega) (by omega) (by omega)) ?_
  case run6 => go_simp
  rintro e w6 ⟨rfl, hb6, hf6⟩
  have hS6 : Fr Nob w w6 := hS5.step hf6 (fun i hi e => by omega)
  have HB6 := Lib.hid hb6
  clear hb6 hf6
  refine ⟨_, rfl, hS6, ?_⟩
  refine wpAnyH_at (some 29) (a' := ?a6) rfl ?b6 ?_
  case b6 => (simp only [Act.put, List.setIfInBounds_toArray, List.set_cons_zero, List.set_cons_succ]; rfl)
  refine wpAnyH_done (by kernel_rfl) ?_ _
  dsimp only [OnlyNormal]
  go_wp2
  go_ret
  have hls : (splice cur 0 (bts (putB 4 cr))).length = cur.length := length_splice _ _ _ (by rw [bts_length, putB_length]; omega)
  refine ⟨_, rfl, ⟨by rw [bts_length, fraB_length]; omega, .inr ⟨g4, cur.length, _, rfl, hg4, HB6.out, by omega, by unfold maxLen; omega, ?_, ?_⟩⟩, hS6⟩
  · rw [List.size_toArray, hls]; omega
  · rw [Nat.mul_one]
    show (splice cur 0 (bts (putB 4 cr))).take _ = _
    rw [splice_take _ _ _ _ (by rw [bts_length, putB_length]; omega) (by omega), HT4.out, ← bts_splice, HQ.out]
end Go.Proofs.YtccmmnacejdeoaaGreatDoor
