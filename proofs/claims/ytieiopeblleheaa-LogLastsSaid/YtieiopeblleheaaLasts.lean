/-
  What LogLasts comes to: true, whatever the lengths and the number behind which it flushes.
-/
import Derived.Test.YtieiopeblleheaaLastsPre
import Derived.Test.YtieiopeblleheaaRowKitX
namespace Go.Proofs.Ytieiopeblleheaa
set_option linter.unusedSimpArgs false
set_option linter.unusedVariables false
open Go.RowKit

set_option maxHeartbeats 3200000 in
set_option maxRecDepth 100000 in
theorem Lasts_row (A : Option Addr) (c : Nat) (zs : List Int) (fl : Int) (w : World) (hin : IntsIn w A zs) (hreach : zs.length * 8 ≤ 140737488351232) (f0 : -9223372036854775808 ≤ fl) (f1 : fl ≤ 9223372036854775807) :
    Calls Try.prog 8 #[.slice A zs.length c, .int .i64 fl] w fun e w' => e = .returned (.bool true) ∧ Fr Nob w w' := by
  have HIn := Lib.hid hin
  clear hin
  go_enter Try.func8, Try.ntmps8
  go_wp2_with fail
  refine (New_ok 100 _ (by omega) (by omega)).mono ?_
  rintro e w1 ⟨d, rfl, hd, hD1, hf1⟩
  rw [show (100 : Int).toNat = 100 from rfl] at hD1
  have HOp := Lib.hid (Open_new 0 100 hD1 (by omega) (by omega) (by omega))
  have HF1 := Lib.hid hf1
  clear hD1 hf1
  go_wp2_with fail
  refine HOp.out.mono ?_
  rintro e w2 ⟨p, rfl, hp, ⟨R, RD, hW, hR, hRD⟩, hf2⟩
  have hz2 := hf2.size
  have hz1 := HF1.out.size
  have hN1 : New w w1 := Fr.mono HF1.out (fun _ _ h => h.elim)
  obtain ⟨n, hn⟩ : ∃ n, min zs.length 20 = n := ⟨_, rfl⟩
  have hnI : min (zs.length : Int) 20 = (n : Int) := by omega
  have hn20 : n ≤ 20 := by omega
  have hnz : n ≤ zs.length := by omega
  obtain ⟨kk, hkk, hk31⟩ := and_i64_le fl 31 (by omega)
  have hkk : bits .and .i64 fl 31 = (kk : Int) := hkk
  have HL0 : Hid (LSt w p d zs kk 0 false w2) := ⟨LS.empty 0 100, DS.new 100, R, RD, ⟨hW, rfl, rfl, rfl, rfl, fun _ => ⟨rfl, rfl⟩, fun h => by cases h⟩, fun b hb => by have := hR b hb; omega, fun b hb => by
    rcases hRD b hb with h | h
    · exact h.1
    · omega, hN1.step hf2.fr (fun b h => h.1)⟩
  clear hW HOp hR hRD hf2 hN1 HF1 hd hp hz1 hz2 hn
  go_wp2
  go_loopw [11, 12, 13] (fun i _ _ wr => ∃ k : Nat, k ≤ n ∧ i = .int .i64 k ∧ Hid (LSt w p d zs kk k (decide (kk < k)) wr)) (fun i _ _ _ => n - (intOf i).toNat)
  case atStart => exact ⟨0, Nat.zero_le _, rfl, by rw [show decide (kk < 0) = false from by simp]; exact HL0⟩
  case round =>
    obtain ⟨k, hk, rfl, hL⟩ := hrel
    clear HL0
    by_cases hlt : k < n
    · obtain ⟨z, hzz⟩ : ∃ z, zs.getD k 0 = z := ⟨_, rfl⟩
      have hgz : zs[k]? = some z := by
        rw [← hzz, List.getD_eq_getElem?_getD, List.getElem?_eq_getElem (by omega)]; rfl
      obtain ⟨kb, ko, rfl, hcw⟩ := HIn.out.2 (by omega)
      have c0 := hcw k z hgz
      have hNw : New w wr := by obtain ⟨_, _, _, _, _, _, _, h⟩ := hL.out; exact h
      have hkb := cell_lt c0
      rw [← hNw.cell hkb (by show ¬ _ ≤ kb; have : kb < w.heap.size := hkb; omega)] at c0
      have hmz : bits .and .i64 z 127 = (maskN z : Int) := maskN_eq z
      obtain ⟨mz, hmm⟩ : ∃ m, maskN z = m := ⟨_, rfl⟩
      have hm127 : mz ≤ 127 := by rw [← hmm]; exact maskN_le z
      rw [hmm] at hmz
      have HRc := Lib.hid (Rec_any k mz (by omega) (by omega) wr)
      have hwz := hNw.size
      have HZ : Hid (maskN (zs.getD k 0) = mz) := by rw [Hid, hzz]; exact hmm
      have HC := Lib.hid hcw
      clear hcw hNw hzz hgz hmm
      go_wp2_with fail
      refine HRc.out.mono ?_
      rintro e wA ⟨rfl, hbA, hfA⟩
      have hAp := (hL.out.new hfA).appended (by omega) wr.heap.size mz hbA.lt (by rw [HZ.out]; exact bytesIn_of hbA)
      rw [HZ.out] at hAp
      have HAp := Lib.hid hAp
      clear hAp hbA hfA HRc
      go_wp2_with fail
      refine HAp.out.mono ?_
      rintro e wB ⟨rfl, hLB⟩
      have HLB := Lib.hid hLB
      clear hLB HAp
      by_cases hke : k = kk
      · subst hke
        have tk : decide (k < k) = false := by simp
        rw [tk] at HLB
        have HFl := Lib.hid (HLB.out.flushed (by omega))
        go_wp2_with fail
        refine HFl.out.mono ?_
        rintro e wC ⟨rfl, hLC⟩
        have HLC := Lib.hid hLC
        have HFd := Lib.hid hLC.isFlushed
        clear hLC HFl
        go_wp2_with fail
        refine HFd.out.mono ?_
        rintro e wD ⟨rfl, rfl⟩
        go_wp2
        exact ⟨⟨k + 1, by omega, by go_num, by rw [show decide (k < k + 1) = true from by simp]; exact HLC⟩, by simp [intOf]; omega⟩
      · have tk : ((k : Int) == (kk : Int)) = false := by rw [beq_eq_false_iff_ne]; omega
        go_wp2
        exact ⟨⟨k + 1, by omega, by go_num, by rw [show decide (kk < k + 1) = decide (kk < k) from by rw [decide_eq_decide]; omega]; exact HLB⟩, by simp [intOf]; omega⟩
    · obtain rfl : k = n := by omega
      have HD := Lib.hid hL.out.disk
      have HCr := Lib.hid hL.out.disk.crashed
      clear hL
      by_cases hkn : kk < k
      · have tk : decide (kk < k) = true := by simpa using hkn
        rw [tk] at HD HCr
        obtain ⟨m, hm⟩ : ∃ m, kk + 1 = m := ⟨_, rfl⟩
        have hmk : m ≤ k := by omega
        have hleI : (kk : Int) + 1 = (m : Int) := by omega
        clear HD
        go_wp2_with fail
        refine HCr.out.mono ?_
        rintro e wE ⟨rfl, hD⟩
        have hop := hD.opened' (fun _ => by omega) (m := m) (by rw [if_pos rfl]; exact hm)
        have HOp := Lib.hid hop
        clear hD HCr hop 
        go_wp2_with fail
        refine HOp.out.mono ?_
        rintro e wF ⟨p2, rfl, hO⟩
        have HTo := Lib.hid (hO.told (by omega))
        have HO := Lib.hid hO
        clear hO HOp
        go_wp2_with fail
        refine HTo.out.mono ?_
        rintro e wG ⟨A2, c2, rfl, ho, hfG⟩
        have HOw := Lib.hid ho
        have HOG := Lib.hid (HO.out.new hfG)
        clear ho hfG HTo HO
        go_wp2
        go_loopw [17] (fun i wr => ∃ j : Nat, j ≤ m ∧ i = .int .i64 j ∧ Hid (Fr Nob wG wr)) (fun i _ => m - (intOf i).toNat)
        case atStart => exact ⟨0, Nat.zero_le _, rfl, Fr.refl _ _⟩
        case round =>
          obtain ⟨j, hj, rfl, hF⟩ := hrel
          by_cases hlt : j < m
          · obtain ⟨z, hzz⟩ : ∃ z, zs.getD j 0 = z := ⟨_, rfl⟩
            have hgz : zs[j]? = some z := by
              rw [← hzz, List.getD_eq_getElem?_getD, List.getElem?_eq_getElem (by omega)]; rfl
            obtain ⟨kb, ko, rfl, hcw⟩ := HIn.out.2 (by omega)
            have c0 := hcw j z hgz
            have hNw : New w wr := by obtain ⟨_, _, _, _, _, _, _, _, _, h⟩ := HOG.out; exact h.new hF.out
            have hkb := cell_lt c0
            rw [← hNw.cell hkb (by show ¬ _ ≤ kb; have : kb < w.heap.size := hkb; omega)] at c0
            have hmz : bits .and .i64 z 127 = (maskN z : Int) := maskN_eq z
            obtain ⟨mz, hmm⟩ : ∃ m, maskN z = m := ⟨_, rfl⟩
            have hm127 : mz ≤ 127 := by rw [← hmm]; exact maskN_le z
            rw [hmm] at hmz
            have hwz := hNw.size
            have HZ : Hid (maskN (zs.getD j 0) = mz) := by rw [Hid, hzz]; exact hmm
            have hown := own_fr HOw.out hF.out (fun _ _ h => h)
            obtain ⟨g, cap, e, _, hglt⟩ := hown.form (by omega)
            injection e with e1 e2 e3
            subst e1 e3
            clear e2
            have hcx := hown.cellAt (j * 1) (by omega)
            rw [Nat.mul_one] at hcx
            have hsx : (strCells (lastR zs m))[j]? = some (strv (recB j mz)) := by
              unfold strCells
              rw [List.getElem?_map, lastR_get _ _ _ hlt, HZ.out]; rfl
            rw [hsx] at hcx
            have HCx := Lib.hid hcx
            have HC0 := Lib.hid c0
            have hxlt := cell_lt hcx
            clear hcw hNw hzz hgz hmm hown hsx hcx c0
            have hrl := recB_length j mz
            obtain ⟨rb, hrb⟩ : ∃ rb, recB j mz = rb := ⟨_, rfl⟩
            rw [hrb] at hrl HCx
            have HCx : Hid (wr.cell? ⟨g, j, none⟩ = some (.string ⟨rb.toArray⟩)) := HCx
            go_wp2
            have hS : Fr Nob wr wr.drew := (Fr.refl _ wr).drew
            have HRc := Lib.hid (Rec_any j mz (by omega) (by omega) wr.drew)
            rw [hrb] at HRc
            have hc0l := cell_lt HC0.out
            refine Rg.begin (Fr Nob wr) [] (by kernel_rfl) ?_
            refine Rg.op 0 (some 131) hS (v := ?v0x) (a' := ?a0x) (hy := fun wz hwz => ?h0x) (ha := ?b0x) (h := ?_)
            case h0x => (go_simp; try with_reducible rfl)
            case b0x => (simp only [Act.put, List.setIfInBounds_toArray, List.set_cons_zero, List.set_cons_succ]; rfl)
            refine Rg.op 1 (some 132) hS (v := ?v1x) (a' := ?a1x) (hy := fun wz hwz => ?h1x) (ha := ?b1x) (h := ?_)
            case h1x => (go_simp; try with_reducible rfl)
            case b1x => (simp only [Act.put, List.setIfInBounds_toArray, List.set_cons_zero, List.set_cons_succ]; rfl)
            refine Rg.op 2 (some 133) hS (v := ?v2x) (a' := ?a2x) (hy := fun wz hwz => ?h2x) (ha := ?b2x) (h := ?_)
            case h2x => (have u1 : (0 : Int) ≤ (j : Int) := (by omega); have u2 : (j : Int) < (m : Int) := (by omega); go_simp; try with_reducible rfl)
            case b2x => (simp only [Act.put, List.setIfInBounds_toArray, List.set_cons_zero, List.set_cons_succ]; rfl)
            refine Rg.op 3 (some 134) hS (v := ?v3x) (a' := ?a3x) (hy := fun wz hwz => ?h3x) (ha := ?b3x) (h := ?_)
            case h3x => (have cx := (hwz.cell hxlt (fun h => h)).trans HCx.out; go_simp; try with_reducible rfl)
            case b3x => (simp only [Act.put, List.setIfInBounds_toArray, List.set_cons_zero, List.set_cons_succ]; rfl)
            refine Rg.op 4 (some 135) hS (v := ?v4x) (a' := ?a4x) (hy := fun wz hwz => ?h4x) (ha := ?b4x) (h := ?_)
            case h4x => (go_simp; try with_reducible rfl)
            case b4x => (simp only [Act.put, List.setIfInBounds_toArray, List.set_cons_zero, List.set_cons_succ]; rfl)
            refine Rg.op 5 (some 136) hS (v := ?v5x) (a' := ?a5x) (hy := fun wz hwz => ?h5x) (ha := ?b5x) (h := ?_)
            case h5x => (go_simp; try with_reducible rfl)
            case b5x => (simp only [Act.put, List.setIfInBounds_toArray, List.set_cons_zero, List.set_cons_succ]; rfl)
            refine Rg.op 6 (some 137) hS (v := ?v6x) (a' := ?a6x) (hy := fun wz hwz => ?h6x) (ha := ?b6x) (h := ?_)
            case h6x => (go_simp; try with_reducible rfl)
            case b6x => (simp only [Act.put, List.setIfInBounds_toArray, List.set_cons_zero, List.set_cons_succ]; rfl)
            refine Rg.op 7 (some 138) hS (v := ?v7x) (a' := ?a7x) (hy := fun wz hwz => ?h7x) (ha := ?b7x) (h := ?_)
            case h7x => (have u1 : (0 : Int) ≤ (j : Int) := (by omega); have u2 : (j : Int) < (zs.length : Int) := (by omega); go_simp; try with_reducible rfl)
            case b7x => (simp only [Act.put, List.setIfInBounds_toArray, List.set_cons_zero, List.set_cons_succ]; rfl)
            refine Rg.op 8 (some 139) hS (v := ?v8x) (a' := ?a8x) (hy := fun wz hwz => ?h8x) (ha := ?b8x) (h := ?_)
            case h8x => (have cx := (hwz.cell hc0l (fun h => h)).trans HC0.out; go_simp; try with_reducible rfl)
            case b8x => (simp only [Act.put, List.setIfInBounds_toArray, List.set_cons_zero, List.set_cons_succ]; rfl)
            refine Rg.op 9 (some 140) hS (v := ?v9x) (a' := ?a9x) (hy := fun wz hwz => ?h9x) (ha := ?b9x) (h := ?_)
            case h9x => (go_simp; try with_reducible rfl)
            case b9x => (simp only [Act.put, List.setIfInBounds_toArray, List.set_cons_zero, List.set_cons_succ]; rfl)
            refine Rg.call 10 (some 141) (hrun := ?h10x) (hcall := HRc.out) (h := ?_)
            case h10x => (go_simp)
            rintro e w5 ⟨rfl, hb5, hf5⟩
            have hS5 : Fr Nob wr w5 := hS.trans hf5
            have HCv := Lib.hid (conv_in (bytesIn_of hb5) mz)
            rw [hrl, show wr.drew.heap.size = wr.heap.size from rfl] at HCv
            clear hb5 hf5
            refine ⟨_, ?a10x, rfl, ?b10x, (fun _ => hS5), ?_⟩
            case b10x => (simp only [Act.put, List.setIfInBounds_toArray, List.set_cons_zero, List.set_cons_succ]; rfl)
            refine Rg.run 11 (some 142) (v := (.string ⟨rb.toArray⟩)) (a' := ?a11x) (w' := (w5)) (hrun := ?h11x) (ha := ?b11x) (hS := (fun _ => hS5)) (h := ?_)
            case h11x => (have hcv := HCv.out; go_simp; try with_reducible rfl)
            case b11x => (simp only [Act.put, List.setIfInBounds_toArray, List.set_cons_zero, List.set_cons_succ]; rfl)
            refine Rg.op 12 (some 143) hS5 (v := (.bool false)) (a' := ?a12x) (hy := fun wz hwz => ?h12x) (ha := ?b12x) (h := ?_)
            case h12x => (go_simp; try with_reducible rfl)
            case b12x => (simp only [Act.put, List.setIfInBounds_toArray, List.set_cons_zero, List.set_cons_succ]; rfl)
            refine Rg.done _ (h := ?_)
            go_wp2
            exact ⟨⟨j + 1, by omega, by go_num, hF.out.trans hS5⟩, by simp [intOf]; omega⟩
          · obtain rfl : j = m := by omega
            have HOR := Lib.hid (HOG.out.new hF.out)
            have kc := fun (w : World) (C : Array Value) (n c : Nat) => Lib.run_convert_bytes_const (P := Try.prog) w 29 5 C n c Try.underlying29 Try.underlying5
            go_wp2_with fail
            have hbi : BytesIn (wr.alloc (.cells #[.int .u8 110, .int .u8 101, .int .u8 120, .int .u8 116] 5 (4, 5))) (some ⟨wr.heap.size, 0, none⟩) [110, 101, 120, 116] := bytesIn_lit wr [110, 101, 120, 116] (4, 5)
            have hap := (HOR.out.new ((Fr.refl _ wr).alloc _)).appended (by omega) wr.heap.size 4 _ hbi (by simp) (by decide)
            rw [show ([110, 101, 120, 116] : List UInt8).length = 4 from rfl] at hap
            have HAp := Lib.hid hap
            clear hap hbi
            refine HAp.out.mono ?_
            rintro e wH ⟨rfl, hNH⟩
            have HNH := Lib.hid hNH
            clear hNH HAp
            go_wp2_with fail
            refine (awake4_any _).mono ?_
            rintro e wI ⟨rfl, hfI⟩
            have HFI := Lib.hid ((HNH.out.new hfI).fr)
            clear hfI
            go_wp2
            go_ret
            exact ⟨rfl, HFI.out⟩
      · have tk : decide (kk < k) = false := by simpa using hkn
        rw [tk] at HD HCr
        obtain ⟨m, hm⟩ : ∃ m, 0 = m := ⟨_, rfl⟩
        have hmk : m ≤ k := by omega
        have t0 : decide ((m : Int) < 0) = false := by rw [decide_eq_false_iff_not]; omega
        have HM := Lib.hid hm
        clear hm
        clear HD
        go_wp2_with fail
        refine HCr.out.mono ?_
        rintro e wE ⟨rfl, hD⟩
        have hop := hD.opened' (fun h => by cases h) (m := m) (by rw [if_neg (by decide)]; exact HM.out)
        have HOp := Lib.hid hop
        clear hD HCr hop 
        go_wp2_with fail
        refine HOp.out.mono ?_
        rintro e wF ⟨p2, rfl, hO⟩
        have HTo := Lib.hid (hO.told (by omega))
        have HO := Lib.hid hO
        clear hO HOp
        go_wp2_with fail
        refine HTo.out.mono ?_
        rintro e wG ⟨A2, c2, rfl, ho, hfG⟩
        have HOw := Lib.hid ho
        have HOG := Lib.hid (HO.out.new hfG)
        clear ho hfG HTo HO
        go_wp2
        go_loopw [17] (fun i wr => ∃ j : Nat, j ≤ m ∧ i = .int .i64 j ∧ Hid (Fr Nob wG wr)) (fun i _ => m - (intOf i).toNat)
        case atStart => exact ⟨0, Nat.zero_le _, rfl, Fr.refl _ _⟩
        case round =>
          obtain ⟨j, hj, rfl, hF⟩ := hrel
          by_cases hlt : j < m
          · obtain ⟨z, hzz⟩ : ∃ z, zs.getD j 0 = z := ⟨_, rfl⟩
            have hgz : zs[j]? = some z := by
              rw [← hzz, List.getD_eq_getElem?_getD, List.getElem?_eq_getElem (by omega)]; rfl
            obtain ⟨kb, ko, rfl, hcw⟩ := HIn.out.2 (by omega)
            have c0 := hcw j z hgz
            have hNw : New w wr := by obtain ⟨_, _, _, _, _, _, _, _, _, h⟩ := HOG.out; exact h.new hF.out
            have hkb := cell_lt c0
            rw [← hNw.cell hkb (by show ¬ _ ≤ kb; have : kb < w.heap.size := hkb; omega)] at c0
            have hmz : bits .and .i64 z 127 = (maskN z : Int) := maskN_eq z
            obtain ⟨mz, hmm⟩ : ∃ m, maskN z = m := ⟨_, rfl⟩
            have hm127 : mz ≤ 127 := by rw [← hmm]; exact maskN_le z
            rw [hmm] at hmz
            have hwz := hNw.size
            have HZ : Hid (maskN (zs.getD j 0) = mz) := by rw [Hid, hzz]; exact hmm
            have hown := own_fr HOw.out hF.out (fun _ _ h => h)
            obtain ⟨g, cap, e, _, hglt⟩ := hown.form (by omega)
            injection e with e1 e2 e3
            subst e1 e3
            clear e2
            have hcx := hown.cellAt (j * 1) (by omega)
            rw [Nat.mul_one] at hcx
            have hsx : (strCells (lastR zs m))[j]? = some (strv (recB j mz)) := by
              unfold strCells
              rw [List.getElem?_map, lastR_get _ _ _ hlt, HZ.out]; rfl
            rw [hsx] at hcx
            have HCx := Lib.hid hcx
            have HC0 := Lib.hid c0
            have hxlt := cell_lt hcx
            clear hcw hNw hzz hgz hmm hown hsx hcx c0
            have hrl := recB_length j mz
            obtain ⟨rb, hrb⟩ : ∃ rb, recB j mz = rb := ⟨_, rfl⟩
            rw [hrb] at hrl HCx
            have HCx : Hid (wr.cell? ⟨g, j, none⟩ = some (.string ⟨rb.toArray⟩)) := HCx
            go_wp2
            have hS : Fr Nob wr wr.drew := (Fr.refl _ wr).drew
            have HRc := Lib.hid (Rec_any j mz (by omega) (by omega) wr.drew)
            rw [hrb] at HRc
            have hc0l := cell_lt HC0.out
            refine Rg.begin (Fr Nob wr) [] (by kernel_rfl) ?_
            refine Rg.op 0 (some 131) hS (v := ?v0y) (a' := ?a0y) (hy := fun wz hwz => ?h0y) (ha := ?b0y) (h := ?_)
            case h0y => (go_simp; try with_reducible rfl)
            case b0y => (simp only [Act.put, List.setIfInBounds_toArray, List.set_cons_zero, List.set_cons_succ]; rfl)
            refine Rg.op 1 (some 132) hS (v := ?v1y) (a' := ?a1y) (hy := fun wz hwz => ?h1y) (ha := ?b1y) (h := ?_)
            case h1y => (go_simp; try with_reducible rfl)
            case b1y => (simp only [Act.put, List.setIfInBounds_toArray, List.set_cons_zero, List.set_cons_succ]; rfl)
            refine Rg.op 2 (some 133) hS (v := ?v2y) (a' := ?a2y) (hy := fun wz hwz => ?h2y) (ha := ?b2y) (h := ?_)
            case h2y => (have u1 : (0 : Int) ≤ (j : Int) := (by omega); have u2 : (j : Int) < (m : Int) := (by omega); go_simp; try with_reducible rfl)
            case b2y => (simp only [Act.put, List.setIfInBounds_toArray, List.set_cons_zero, List.set_cons_succ]; rfl)
            refine Rg.op 3 (some 134) hS (v := ?v3y) (a' := ?a3y) (hy := fun wz hwz => ?h3y) (ha := ?b3y) (h := ?_)
            case h3y => (have cx := (hwz.cell hxlt (fun h => h)).trans HCx.out; go_simp; try with_reducible rfl)
            case b3y => (simp only [Act.put, List.setIfInBounds_toArray, List.set_cons_zero, List.set_cons_succ]; rfl)
            refine Rg.op 4 (some 135) hS (v := ?v4y) (a' := ?a4y) (hy := fun wz hwz => ?h4y) (ha := ?b4y) (h := ?_)
            case h4y => (go_simp; try with_reducible rfl)
            case b4y => (simp only [Act.put, List.setIfInBounds_toArray, List.set_cons_zero, List.set_cons_succ]; rfl)
            refine Rg.op 5 (some 136) hS (v := ?v5y) (a' := ?a5y) (hy := fun wz hwz => ?h5y) (ha := ?b5y) (h := ?_)
            case h5y => (go_simp; try with_reducible rfl)
            case b5y => (simp only [Act.put, List.setIfInBounds_toArray, List.set_cons_zero, List.set_cons_succ]; rfl)
            refine Rg.op 6 (some 137) hS (v := ?v6y) (a' := ?a6y) (hy := fun wz hwz => ?h6y) (ha := ?b6y) (h := ?_)
            case h6y => (go_simp; try with_reducible rfl)
            case b6y => (simp only [Act.put, List.setIfInBounds_toArray, List.set_cons_zero, List.set_cons_succ]; rfl)
            refine Rg.op 7 (some 138) hS (v := ?v7y) (a' := ?a7y) (hy := fun wz hwz => ?h7y) (ha := ?b7y) (h := ?_)
            case h7y => (have u1 : (0 : Int) ≤ (j : Int) := (by omega); have u2 : (j : Int) < (zs.length : Int) := (by omega); go_simp; try with_reducible rfl)
            case b7y => (simp only [Act.put, List.setIfInBounds_toArray, List.set_cons_zero, List.set_cons_succ]; rfl)
            refine Rg.op 8 (some 139) hS (v := ?v8y) (a' := ?a8y) (hy := fun wz hwz => ?h8y) (ha := ?b8y) (h := ?_)
            case h8y => (have cx := (hwz.cell hc0l (fun h => h)).trans HC0.out; go_simp; try with_reducible rfl)
            case b8y => (simp only [Act.put, List.setIfInBounds_toArray, List.set_cons_zero, List.set_cons_succ]; rfl)
            refine Rg.op 9 (some 140) hS (v := ?v9y) (a' := ?a9y) (hy := fun wz hwz => ?h9y) (ha := ?b9y) (h := ?_)
            case h9y => (go_simp; try with_reducible rfl)
            case b9y => (simp only [Act.put, List.setIfInBounds_toArray, List.set_cons_zero, List.set_cons_succ]; rfl)
            refine Rg.call 10 (some 141) (hrun := ?h10y) (hcall := HRc.out) (h := ?_)
            case h10y => (go_simp)
            rintro e w5 ⟨rfl, hb5, hf5⟩
            have hS5 : Fr Nob wr w5 := hS.trans hf5
            have HCv := Lib.hid (conv_in (bytesIn_of hb5) mz)
            rw [hrl, show wr.drew.heap.size = wr.heap.size from rfl] at HCv
            clear hb5 hf5
            refine ⟨_, ?a10y, rfl, ?b10y, (fun _ => hS5), ?_⟩
            case b10y => (simp only [Act.put, List.setIfInBounds_toArray, List.set_cons_zero, List.set_cons_succ]; rfl)
            refine Rg.run 11 (some 142) (v := (.string ⟨rb.toArray⟩)) (a' := ?a11y) (w' := (w5)) (hrun := ?h11y) (ha := ?b11y) (hS := (fun _ => hS5)) (h := ?_)
            case h11y => (have hcv := HCv.out; go_simp; try with_reducible rfl)
            case b11y => (simp only [Act.put, List.setIfInBounds_toArray, List.set_cons_zero, List.set_cons_succ]; rfl)
            refine Rg.op 12 (some 143) hS5 (v := (.bool false)) (a' := ?a12y) (hy := fun wz hwz => ?h12y) (ha := ?b12y) (h := ?_)
            case h12y => (go_simp; try with_reducible rfl)
            case b12y => (simp only [Act.put, List.setIfInBounds_toArray, List.set_cons_zero, List.set_cons_succ]; rfl)
            refine Rg.done _ (h := ?_)
            go_wp2
            exact ⟨⟨j + 1, by omega, by go_num, hF.out.trans hS5⟩, by simp [intOf]; omega⟩
          · obtain rfl : j = m := by omega
            have HOR := Lib.hid (HOG.out.new hF.out)
            have kc := fun (w : World) (C : Array Value) (n c : Nat) => Lib.run_convert_bytes_const (P := Try.prog) w 29 5 C n c Try.underlying29 Try.underlying5
            go_wp2_with fail
            have hbi : BytesIn (wr.alloc (.cells #[.int .u8 110, .int .u8 101, .int .u8 120, .int .u8 116] 5 (4, 5))) (some ⟨wr.heap.size, 0, none⟩) [110, 101, 120, 116] := bytesIn_lit wr [110, 101, 120, 116] (4, 5)
            have hap := (HOR.out.new ((Fr.refl _ wr).alloc _)).appended (by omega) wr.heap.size 4 _ hbi (by simp) (by decide)
            rw [show ([110, 101, 120, 116] : List UInt8).length = 4 from rfl] at hap
            have HAp := Lib.hid hap
            clear hap hbi
            refine HAp.out.mono ?_
            rintro e wH ⟨rfl, hNH⟩
            have HNH := Lib.hid hNH
            clear hNH HAp
            go_wp2_with fail
            refine (awake4_any _).mono ?_
            rintro e wI ⟨rfl, hfI⟩
            have HFI := Lib.hid ((HNH.out.new hfI).fr)
            clear hfI
            go_wp2
            go_ret
            exact ⟨rfl, HFI.out⟩
end Go.Proofs.Ytieiopeblleheaa
