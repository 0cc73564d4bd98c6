/-
  What LogRounds comes to: true, whatever the length, behind however many it cuts and crashes.
-/
import Derived.Test.YtieiopeblleheaaRoundsPre
import Derived.Test.YtieiopeblleheaaRowKitX
namespace Go.Proofs.Ytieiopeblleheaa
set_option linter.unusedSimpArgs false
set_option linter.unusedVariables false
open Go.RowKit

theorem tmod_nat (a b : Nat) (hb : b < 9000000000000000000) (h0 : 0 < b) : Int.tmod ((a : Nat) : Int) (b : Int) = ((a % b : Nat) : Int) ∧ IntKind.i64.wrap (((a % b : Nat)) : Int) = ((a % b : Nat) : Int) := by
  have hm : a % b < b := Nat.mod_lt _ h0
  refine ⟨?_, ?_⟩
  · rw [Int.tmod_eq_emod_of_nonneg (by omega)]; rfl
  · generalize a % b = m at *
    rw [IntKind.wrap_i64]; omega

set_option maxHeartbeats 6400000 in
set_option maxRecDepth 100000 in
theorem Rounds_row (lo ea cr : Int) (w : World) (l0 : -9223372036854775808 ≤ lo) (l1 : lo ≤ 9223372036854775807) (e0 : -9223372036854775808 ≤ ea) (e1 : ea ≤ 9223372036854775807) (c0 : -9223372036854775808 ≤ cr) (c1 : cr ≤ 9223372036854775807) :
    Calls Try.prog 9 #[.int .i64 lo, .int .i64 ea, .int .i64 cr] w fun e w' => e = .returned (.bool true) ∧ Fr Nob w w' := by
  obtain ⟨lg, hlg, hlg2⟩ := and_i64_le' lo 255 (by omega)
  have hlg : bits .and .i64 lo 255 = (lg : Int) := hlg
  obtain ⟨ev0, hev, hev2⟩ := and_i64_le' ea 3 (by omega)
  have hev : bits .and .i64 ea 3 = (ev0 : Int) := hev
  obtain ⟨cv0, hcv, hcv2⟩ := and_i64_le' cr 7 (by omega)
  have hcv : bits .and .i64 cr 7 = (cv0 : Int) := hcv
  obtain ⟨ev, hev3⟩ : ∃ e, ev0 + 1 = e := ⟨_, rfl⟩
  obtain ⟨cv, hcv3⟩ : ∃ e, cv0 + 2 = e := ⟨_, rfl⟩
  have hevI : (ev0 : Int) + 1 = (ev : Int) := by omega
  have hcvI : (cv0 : Int) + 2 = (cv : Int) := by omega
  have hev1 : 1 ≤ ev := by omega
  have hev4 : ev ≤ 4 := by omega
  have hcv1 : 1 ≤ cv := by omega
  have hcv4 : cv ≤ 9 := by omega
  have hev0 : ¬ (ev : Int) = 0 := by omega
  have hcv0 : ¬ (cv : Int) = 0 := by omega
  clear hev2 hcv2 hev3 hcv3 l0 l1 e0 e1 c0 c1
  go_enter Try.func9, Try.ntmps9
  go_wp2_with fail
  refine (New_ok 64 _ (by omega) (by omega)).mono ?_
  rintro e w1 ⟨d, rfl, hd, hD1, hf1⟩
  rw [show (64 : Int).toNat = 64 from rfl] at hD1
  have HOp := Lib.hid (Open_new 0 40 hD1 (by omega) (by omega) (by omega))
  have HF1 := Lib.hid hf1
  clear hD1 hf1
  go_wp2_with fail
  refine HOp.out.mono ?_
  rintro e w2 ⟨p, rfl, hp, hO, hz⟩
  have hz1 := HF1.out.size
  have hN1 : New w w1 := Fr.mono HF1.out (fun _ _ h => h.elim)
  have HR0 : Hid (RSt w p d lg 1 0 0 false w2) := RSt.begun hN1 hlg2 ⟨hO, hz⟩ (fun b hb => hb.1)
  have HSp0 : Hid (Spans ev 1 0) := .inl ⟨rfl, by omega⟩
  clear hO HOp hz hN1 HF1 hd hp hz1
  go_wp2
  go_loopw [9, 11, 12, 13, 14, 15] (fun l i _ _ _ _ wr => ∃ q a a1 fs : Nat, ∃ dn : Bool, Hid (a + 1 = a1) ∧ a1 ≤ 61 ∧ l = .pointer (some ⟨q, 0, none⟩) ∧ i = .int .i64 a1 ∧ Hid (RSt w q d lg fs a (2 * a) dn wr) ∧ Hid (Spans ev fs a)) (fun _ i _ _ _ _ _ => 62 - (intOf i).toNat)
  case atStart => exact ⟨p, 0, 1, 1, false, rfl, by omega, rfl, rfl, HR0, HSp0⟩
  case round =>
    obtain ⟨q, a, a1, fs, dn, HA1, ha, rfl, rfl, hR, hSp⟩ := hrel
    clear HR0 HSp0
    by_cases hlt : a1 < 61
    · obtain ⟨sp1, sp2, sp3, sp4⟩ := hSp.out.step hev1 hev4
      have HS3 := Lib.hid sp3
      have HS4 := Lib.hid sp4
      have ha1 := HA1.out
      have ha999 : a < 1000 := by omega
      have h2a : 2 * a < 200 := by omega
      have ha60 : a1 ≤ 60 := by omega
      have ha1p : 1 ≤ a1 := by omega
      rw [ha1] at HS3 HS4 sp1 sp2
      have HRc := Lib.hid (Rec_any a1 lg (by omega) (by omega) wr)
      have ti : decide ((a1 : Int) ≤ 60) = true := by rw [decide_eq_true_iff]; omega
      clear sp3 sp4 ha1
      go_wp2_with fail
      refine HRc.out.mono ?_
      rintro e wA ⟨rfl, hbA, hfA⟩
      have hAp := (hR.out.new hfA).appended ha999 (by rw [HA1.out]; exact sp2) wr.heap.size lg hbA.lt (by rw [HA1.out]; exact bytesIn_of hbA)
      rw [HA1.out] at hAp
      have HAp := Lib.hid hAp
      clear hAp
      clear hbA hfA HRc
      go_wp2_with fail
      refine HAp.out.mono ?_
      rintro e wB ⟨rfl, hRB⟩
      have HRB := Lib.hid hRB
      clear hRB HAp hR
      have uc : IntKind.u64.wrap (a1 : Int) = (a1 : Int) := by rw [IntKind.wrap_u64]; omega
      obtain ⟨me1, me2⟩ := tmod_nat a1 ev (by omega) (by omega)
      obtain ⟨mc1, mc2⟩ := tmod_nat a1 cv (by omega) (by omega)
      obtain ⟨xe, hxe⟩ : ∃ x, a1 % ev = x := ⟨_, rfl⟩
      obtain ⟨xc, hxc⟩ : ∃ x, a1 % cv = x := ⟨_, rfl⟩
      have HXe := Lib.hid hxe
      rw [hxe] at me1 me2
      rw [hxc] at mc1 mc2
      clear hSp hlt ha hxe hxc ti
      by_cases hxe0 : xe = 0
      · subst hxe0
        have HCu := Lib.hid (HRB.out.cut (by omega) (by omega) (by omega) (by omega))
        have HSX := Lib.hid (HS3.out HXe.out)
        clear HRB HS3 HS4
        go_wp2_with fail
        refine HCu.out.mono ?_
        rintro e wC ⟨rfl, hRC⟩
        have HRX := Lib.hid hRC
        have HFi := Lib.hid hRC.first
        clear hRC HCu
        go_wp2_with fail
        refine HFi.out.mono ?_
        rintro e wD ⟨rfl, rfl⟩
        by_cases hxc0 : xc = 0
        · subst hxc0
          have HFl := Lib.hid (HRX.out.flushed (by omega) (by omega) (by omega) (by omega))
          clear HRX
          go_wp2_with fail
          refine HFl.out.mono ?_
          rintro e wF ⟨rfl, hRF⟩
          have HCr := Lib.hid hRF.disk.crashed
          clear hRF HFl
          go_wp2_with fail
          refine HCr.out.mono ?_
          rintro e wG ⟨rfl, hDG⟩
          have HOp := Lib.hid (hDG.opened (by omega) (by omega))
          clear hDG HCr
          go_wp2_with fail
          refine HOp.out.mono ?_
          rintro e wH ⟨q2, rfl, hRH⟩
          have HRX := Lib.hid hRH
          clear hRH HOp
          have HTo := Lib.hid (HRX.out.told (by omega))
          have hln := HSX.out.len ha1p
          obtain ⟨m, hm⟩ : ∃ m, a1 + 1 - a1 = m := ⟨_, rfl⟩
          rw [hm] at HTo hln
          have hm0 : 0 < m := hln.2.2
          have hm1 : m ≤ ev + 1 := hln.2.1
          clear hln
          go_wp2_with fail
          refine HTo.out.mono ?_
          rintro e wT ⟨A, cp, rfl, hown, hfT⟩
          have HRT := Lib.hid (HRX.out.new hfT)
          obtain ⟨g, cap, e, _, hglt⟩ := hown.form hm0
          injection e with e1 e2 e3
          subst e1 e3
          clear e2
          have hcx := hown.cellAt ((m - 1) * 1) (by omega)
          rw [Nat.mul_one] at hcx
          have hsx : (strCells (recsR lg a1 a1))[m - 1]? = some (strv (recB a1 lg)) := by
            unfold strCells
            rw [List.getElem?_map, recsR_get _ _ _ _ (by omega), show a1 + (m - 1) = a1 from by omega]; rfl
          rw [hsx] at hcx
          have HCx := Lib.hid hcx
          have hxlt := cell_lt hcx
          clear hfT hown hsx hcx HTo HRX hm
          have hrl := recB_length a1 lg
          obtain ⟨rb, hrb⟩ : ∃ rb, recB a1 lg = rb := ⟨_, rfl⟩
          rw [hrb] at hrl HCx
          have HCx : Hid (wT.cell? ⟨g, m - 1, none⟩ = some (.string ⟨rb.toArray⟩)) := HCx
          obtain ⟨m', hm'⟩ : ∃ x, m - 1 = x := ⟨_, rfl⟩
          have hmI : (m : Int) - 1 = (m' : Int) := by omega
          rw [hm'] at HCx hxlt
          clear hm'
          go_wp2
          have hS : Fr Nob wT wT.drew := (Fr.refl _ wT).drew
          have HRc := Lib.hid (Rec_any a1 lg (by omega) (by omega) wT.drew)
          rw [hrb] at HRc
          refine Rg.begin (Fr Nob wT) [] (by kernel_rfl) ?_
          refine Rg.op 0 (some 106) hS (v := ?v0xc) (a' := ?a0xc) (hy := fun wz hwz => ?h0xc) (ha := ?b0xc) (h := ?_)
          case h0xc => (go_simp; try with_reducible rfl)
          case b0xc => (simp only [Act.put, List.setIfInBounds_toArray, List.set_cons_zero, List.set_cons_succ]; rfl)
          refine Rg.op 1 (some 107) hS (v := ?v1xc) (a' := ?a1xc) (hy := fun wz hwz => ?h1xc) (ha := ?b1xc) (h := ?_)
          case h1xc => (go_simp; try with_reducible rfl)
          case b1xc => (simp only [Act.put, List.setIfInBounds_toArray, List.set_cons_zero, List.set_cons_succ]; rfl)
          refine Rg.op 2 (some 108) hS (v := ?v2xc) (a' := ?a2xc) (hy := fun wz hwz => ?h2xc) (ha := ?b2xc) (h := ?_)
          case h2xc => (go_simp; try with_reducible rfl)
          case b2xc => (simp only [Act.put, List.setIfInBounds_toArray, List.set_cons_zero, List.set_cons_succ]; rfl)
          refine Rg.op 3 (some 109) hS (v := ?v3xc) (a' := ?a3xc) (hy := fun wz hwz => ?h3xc) (ha := ?b3xc) (h := ?_)
          case h3xc => (go_simp; try with_reducible rfl)
          case b3xc => (simp only [Act.put, List.setIfInBounds_toArray, List.set_cons_zero, List.set_cons_succ]; rfl)
          refine Rg.op 4 (some 110) hS (v := ?v4xc) (a' := ?a4xc) (hy := fun wz hwz => ?h4xc) (ha := ?b4xc) (h := ?_)
          case h4xc => (go_simp; try with_reducible rfl)
          case b4xc => (simp only [Act.put, List.setIfInBounds_toArray, List.set_cons_zero, List.set_cons_succ]; rfl)
          refine Rg.op 5 (some 111) hS (v := (.bool false)) (a' := ?a5xc) (hy := fun wz hwz => ?h5xc) (ha := ?b5xc) (h := ?_)
          case h5xc => (have u1 : ((m : Int) == 0) = false := (by rw [beq_eq_false_iff_ne]; omega); go_simp; try with_reducible rfl)
          case b5xc => (simp only [Act.put, List.setIfInBounds_toArray, List.set_cons_zero, List.set_cons_succ]; rfl)
          refine Rg.op 6 (some 112) hS (v := ?v6xc) (a' := ?a6xc) (hy := fun wz hwz => ?h6xc) (ha := ?b6xc) (h := ?_)
          case h6xc => (go_simp; try with_reducible rfl)
          case b6xc => (simp only [Act.put, List.setIfInBounds_toArray, List.set_cons_zero, List.set_cons_succ]; rfl)
          refine Rg.op 7 (some 113) hS (v := ?v7xc) (a' := ?a7xc) (hy := fun wz hwz => ?h7xc) (ha := ?b7xc) (h := ?_)
          case h7xc => (go_simp; try with_reducible rfl)
          case b7xc => (simp only [Act.put, List.setIfInBounds_toArray, List.set_cons_zero, List.set_cons_succ]; rfl)
          refine Rg.op 8 (some 114) hS (v := ?v8xc) (a' := ?a8xc) (hy := fun wz hwz => ?h8xc) (ha := ?b8xc) (h := ?_)
          case h8xc => (go_simp; try with_reducible rfl)
          case b8xc => (simp only [Act.put, List.setIfInBounds_toArray, List.set_cons_zero, List.set_cons_succ]; rfl)
          refine Rg.op 9 (some 115) hS (v := ?v9xc) (a' := ?a9xc) (hy := fun wz hwz => ?h9xc) (ha := ?b9xc) (h := ?_)
          case h9xc => (go_simp; try with_reducible rfl)
          case b9xc => (simp only [Act.put, List.setIfInBounds_toArray, List.set_cons_zero, List.set_cons_succ]; rfl)
          refine Rg.op 10 (some 116) hS (v := ?v10xc) (a' := ?a10xc) (hy := fun wz hwz => ?h10xc) (ha := ?b10xc) (h := ?_)
          case h10xc => (go_simp; try with_reducible rfl)
          case b10xc => (simp only [Act.put, List.setIfInBounds_toArray, List.set_cons_zero, List.set_cons_succ]; rfl)
          refine Rg.op 11 (some 117) hS (v := ?v11xc) (a' := ?a11xc) (hy := fun wz hwz => ?h11xc) (ha := ?b11xc) (h := ?_)
          case h11xc => (have u2 : IntKind.i64.wrap ((ev : Int) + 1) = (ev : Int) + 1 := (by rw [IntKind.wrap_i64]; omega); go_simp; try with_reducible rfl)
          case b11xc => (simp only [Act.put, List.setIfInBounds_toArray, List.set_cons_zero, List.set_cons_succ]; rfl)
          refine Rg.op 12 (some 118) hS (v := (.bool false)) (a' := ?a12xc) (hy := fun wz hwz => ?h12xc) (ha := ?b12xc) (h := ?_)
          case h12xc => (have u3 : decide ((ev : Int) + 1 < (m : Int)) = false := (by rw [decide_eq_false_iff_not]; omega); go_simp; try with_reducible rfl)
          case b12xc => (simp only [Act.put, List.setIfInBounds_toArray, List.set_cons_zero, List.set_cons_succ]; rfl)
          refine Rg.op 13 (some 119) hS (v := ?v13xc) (a' := ?a13xc) (hy := fun wz hwz => ?h13xc) (ha := ?b13xc) (h := ?_)
          case h13xc => (go_simp; try with_reducible rfl)
          case b13xc => (simp only [Act.put, List.setIfInBounds_toArray, List.set_cons_zero, List.set_cons_succ]; rfl)
          refine Rg.op 14 (some 120) hS (v := ?v14xc) (a' := ?a14xc) (hy := fun wz hwz => ?h14xc) (ha := ?b14xc) (h := ?_)
          case h14xc => (go_simp; try with_reducible rfl)
          case b14xc => (simp only [Act.put, List.setIfInBounds_toArray, List.set_cons_zero, List.set_cons_succ]; rfl)
          refine Rg.op 15 (some 121) hS (v := ?v15xc) (a' := ?a15xc) (hy := fun wz hwz => ?h15xc) (ha := ?b15xc) (h := ?_)
          case h15xc => (go_simp; try with_reducible rfl)
          case b15xc => (simp only [Act.put, List.setIfInBounds_toArray, List.set_cons_zero, List.set_cons_succ]; rfl)
          refine Rg.op 16 (some 122) hS (v := ?v16xc) (a' := ?a16xc) (hy := fun wz hwz => ?h16xc) (ha := ?b16xc) (h := ?_)
          case h16xc => (go_simp; try with_reducible rfl)
          case b16xc => (simp only [Act.put, List.setIfInBounds_toArray, List.set_cons_zero, List.set_cons_succ]; rfl)
          refine Rg.op 17 (some 123) hS (v := ?v17xc) (a' := ?a17xc) (hy := fun wz hwz => ?h17xc) (ha := ?b17xc) (h := ?_)
          case h17xc => (go_simp; try with_reducible rfl)
          case b17xc => (simp only [Act.put, List.setIfInBounds_toArray, List.set_cons_zero, List.set_cons_succ]; rfl)
          refine Rg.op 18 (some 124) hS (v := (.int .i64 m')) (a' := ?a18xc) (hy := fun wz hwz => ?h18xc) (ha := ?b18xc) (h := ?_)
          case h18xc => (have u4 : IntKind.i64.wrap (m' : Int) = (m' : Int) := (by rw [IntKind.wrap_i64]; omega); go_simp; try with_reducible rfl)
          case b18xc => (simp only [Act.put, List.setIfInBounds_toArray, List.set_cons_zero, List.set_cons_succ]; rfl)
          refine Rg.op 19 (some 125) hS (v := ?v19xc) (a' := ?a19xc) (hy := fun wz hwz => ?h19xc) (ha := ?b19xc) (h := ?_)
          case h19xc => (have u1 : (0 : Int) ≤ (m' : Int) := (by omega); have u2 : (m' : Int) < (m : Int) := (by omega); go_simp; try with_reducible rfl)
          case b19xc => (simp only [Act.put, List.setIfInBounds_toArray, List.set_cons_zero, List.set_cons_succ]; rfl)
          refine Rg.op 20 (some 126) hS (v := ?v20xc) (a' := ?a20xc) (hy := fun wz hwz => ?h20xc) (ha := ?b20xc) (h := ?_)
          case h20xc => (have cx := (hwz.cell hxlt (fun h => h)).trans HCx.out; go_simp; try with_reducible rfl)
          case b20xc => (simp only [Act.put, List.setIfInBounds_toArray, List.set_cons_zero, List.set_cons_succ]; rfl)
          refine Rg.op 21 (some 127) hS (v := ?v21xc) (a' := ?a21xc) (hy := fun wz hwz => ?h21xc) (ha := ?b21xc) (h := ?_)
          case h21xc => (go_simp; try with_reducible rfl)
          case b21xc => (simp only [Act.put, List.setIfInBounds_toArray, List.set_cons_zero, List.set_cons_succ]; rfl)
          refine Rg.op 22 (some 128) hS (v := ?v22xc) (a' := ?a22xc) (hy := fun wz hwz => ?h22xc) (ha := ?b22xc) (h := ?_)
          case h22xc => (go_simp; try with_reducible rfl)
          case b22xc => (simp only [Act.put, List.setIfInBounds_toArray, List.set_cons_zero, List.set_cons_succ]; rfl)
          refine Rg.call 23 (some 129) (hrun := ?h23xc) (hcall := HRc.out) (h := ?_)
          case h23xc => (go_simp)
          rintro e w5 ⟨rfl, hb5, hf5⟩
          have hS5 : Fr Nob wT w5 := hS.trans hf5
          have HCv := Lib.hid (conv_in (bytesIn_of hb5) lg)
          rw [hrl, show wT.drew.heap.size = wT.heap.size from rfl] at HCv
          clear hb5 hf5
          refine ⟨_, ?a23xc, rfl, ?b23xc, (fun _ => hS5), ?_⟩
          case b23xc => (simp only [Act.put, List.setIfInBounds_toArray, List.set_cons_zero, List.set_cons_succ]; rfl)
          refine Rg.run 24 (some 130) (v := (.string ⟨rb.toArray⟩)) (a' := ?a24xc) (w' := (w5)) (hrun := ?h24xc) (ha := ?b24xc) (hS := (fun _ => hS5)) (h := ?_)
          case h24xc => (have hcv := HCv.out; go_simp; try with_reducible rfl)
          case b24xc => (simp only [Act.put, List.setIfInBounds_toArray, List.set_cons_zero, List.set_cons_succ]; rfl)
          refine Rg.op 25 (some 131) hS5 (v := (.bool false)) (a' := ?a25xc) (hy := fun wz hwz => ?h25xc) (ha := ?b25xc) (h := ?_)
          case h25xc => (go_simp; try with_reducible rfl)
          case b25xc => (simp only [Act.put, List.setIfInBounds_toArray, List.set_cons_zero, List.set_cons_succ]; rfl)
          refine Rg.op 26 (some 132) hS5 (v := ?v26xc) (a' := ?a26xc) (hy := fun wz hwz => ?h26xc) (ha := ?b26xc) (h := ?_)
          case h26xc => (go_simp; try with_reducible rfl)
          case b26xc => (simp only [Act.put, List.setIfInBounds_toArray, List.set_cons_zero, List.set_cons_succ]; rfl)
          refine Rg.op 27 (some 133) hS5 (v := ?v27xc) (a' := ?a27xc) (hy := fun wz hwz => ?h27xc) (ha := ?b27xc) (h := ?_)
          case h27xc => (go_simp; try with_reducible rfl)
          case b27xc => (simp only [Act.put, List.setIfInBounds_toArray, List.set_cons_zero, List.set_cons_succ]; rfl)
          refine Rg.op 28 (some 134) hS5 (v := ?v28xc) (a' := ?a28xc) (hy := fun wz hwz => ?h28xc) (ha := ?b28xc) (h := ?_)
          case h28xc => (go_simp; try with_reducible rfl)
          case b28xc => (simp only [Act.put, List.setIfInBounds_toArray, List.set_cons_zero, List.set_cons_succ]; rfl)
          refine Rg.op 30 (some 136) hS5 (v := ?v30xc) (a' := ?a30xc) (hy := fun wz hwz => ?h30xc) (ha := ?b30xc) (h := ?_)
          case h30xc => (go_simp; try with_reducible rfl)
          case b30xc => (simp only [Act.put, List.setIfInBounds_toArray, List.set_cons_zero, List.set_cons_succ]; rfl)
          refine Rg.op 31 (some 137) hS5 (v := (.int .i64 ((a1 + 1 : Nat) : Int))) (a' := ?a31xc) (hy := fun wz hwz => ?h31xc) (ha := ?b31xc) (h := ?_)
          case h31xc => (have u5 : IntKind.i64.wrap ((a1 : Int) + 1) = ((a1 + 1 : Nat) : Int) := (by rw [IntKind.wrap_i64]; omega); go_simp; try with_reducible rfl)
          case b31xc => (simp only [Act.put, List.setIfInBounds_toArray, List.set_cons_zero, List.set_cons_succ]; rfl)
          refine Rg.op 32 (some 138) hS5 (v := (.int .u64 ((a1 + 1 : Nat) : Int))) (a' := ?a32xc) (hy := fun wz hwz => ?h32xc) (ha := ?b32xc) (h := ?_)
          case h32xc => (have u6 : IntKind.u64.wrap ((a1 : Int) + 1) = (a1 : Int) + 1 := (by rw [IntKind.wrap_u64]; omega); go_simp; try with_reducible rfl)
          case b32xc => (simp only [Act.put, List.setIfInBounds_toArray, List.set_cons_zero, List.set_cons_succ]; rfl)
          refine Rg.call 29 (some 135) (hrun := ?h29xc) (hcall := (HRT.out.new hS5).next) (h := ?_)
          case h29xc => (go_simp)
          rintro e w6 ⟨rfl, rfl⟩
          refine ⟨_, ?a29xc, rfl, ?b29xc, (fun _ => hS5), ?_⟩
          case b29xc => (simp only [Act.put, List.setIfInBounds_toArray, List.set_cons_zero, List.set_cons_succ]; rfl)
          refine Rg.op 33 (some 139) hS5 (v := (.bool false)) (a' := ?a33xc) (hy := fun wz hwz => ?h33xc) (ha := ?b33xc) (h := ?_)
          case h33xc => (go_simp; try with_reducible rfl)
          case b33xc => (simp only [Act.put, List.setIfInBounds_toArray, List.set_cons_zero, List.set_cons_succ]; rfl)
          refine Rg.op 34 (some 140) hS5 (v := ?v34xc) (a' := ?a34xc) (hy := fun wz hwz => ?h34xc) (ha := ?b34xc) (h := ?_)
          case h34xc => (go_simp; try with_reducible rfl)
          case b34xc => (simp only [Act.put, List.setIfInBounds_toArray, List.set_cons_zero, List.set_cons_succ]; rfl)
          refine Rg.done _ (h := ?_)
          go_wp2
          go_roundw
          case rel => exact ⟨q2, a1, a1 + 1, a1, true, rfl, by omega, rfl, by go_num, by have := HRT.out.new hS5; have e := HA1.out; rw [show 2 * a1 = 2 * a + 1 + 1 from by omega]; exact this, HSX⟩
          case measure => simp [intOf]; omega
        · have txc : ((xc : Int) == 0) = false := by rw [beq_eq_false_iff_ne]; omega
          have HTo := Lib.hid (HRX.out.told (by omega))
          have hln := HSX.out.len ha1p
          obtain ⟨m, hm⟩ : ∃ m, a1 + 1 - a1 = m := ⟨_, rfl⟩
          rw [hm] at HTo hln
          have hm0 : 0 < m := hln.2.2
          have hm1 : m ≤ ev + 1 := hln.2.1
          clear hln
          go_wp2_with fail
          refine HTo.out.mono ?_
          rintro e wT ⟨A, cp, rfl, hown, hfT⟩
          have HRT := Lib.hid (HRX.out.new hfT)
          obtain ⟨g, cap, e, _, hglt⟩ := hown.form hm0
          injection e with e1 e2 e3
          subst e1 e3
          clear e2
          have hcx := hown.cellAt ((m - 1) * 1) (by omega)
          rw [Nat.mul_one] at hcx
          have hsx : (strCells (recsR lg a1 a1))[m - 1]? = some (strv (recB a1 lg)) := by
            unfold strCells
            rw [List.getElem?_map, recsR_get _ _ _ _ (by omega), show a1 + (m - 1) = a1 from by omega]; rfl
          rw [hsx] at hcx
          have HCx := Lib.hid hcx
          have hxlt := cell_lt hcx
          clear hfT hown hsx hcx HTo HRX hm
          have hrl := recB_length a1 lg
          obtain ⟨rb, hrb⟩ : ∃ rb, recB a1 lg = rb := ⟨_, rfl⟩
          rw [hrb] at hrl HCx
          have HCx : Hid (wT.cell? ⟨g, m - 1, none⟩ = some (.string ⟨rb.toArray⟩)) := HCx
          obtain ⟨m', hm'⟩ : ∃ x, m - 1 = x := ⟨_, rfl⟩
          have hmI : (m : Int) - 1 = (m' : Int) := by omega
          rw [hm'] at HCx hxlt
          clear hm'
          go_wp2
          have hS : Fr Nob wT wT.drew := (Fr.refl _ wT).drew
          have HRc := Lib.hid (Rec_any a1 lg (by omega) (by omega) wT.drew)
          rw [hrb] at HRc
          refine Rg.begin (Fr Nob wT) [] (by kernel_rfl) ?_
          refine Rg.op 0 (some 106) hS (v := ?v0xn) (a' := ?a0xn) (hy := fun wz hwz => ?h0xn) (ha := ?b0xn) (h := ?_)
          case h0xn => (go_simp; try with_reducible rfl)
          case b0xn => (simp only [Act.put, List.setIfInBounds_toArray, List.set_cons_zero, List.set_cons_succ]; rfl)
          refine Rg.op 1 (some 107) hS (v := ?v1xn) (a' := ?a1xn) (hy := fun wz hwz => ?h1xn) (ha := ?b1xn) (h := ?_)
          case h1xn => (go_simp; try with_reducible rfl)
          case b1xn => (simp only [Act.put, List.setIfInBounds_toArray, List.set_cons_zero, List.set_cons_succ]; rfl)
          refine Rg.op 2 (some 108) hS (v := ?v2xn) (a' := ?a2xn) (hy := fun wz hwz => ?h2xn) (ha := ?b2xn) (h := ?_)
          case h2xn => (go_simp; try with_reducible rfl)
          case b2xn => (simp only [Act.put, List.setIfInBounds_toArray, List.set_cons_zero, List.set_cons_succ]; rfl)
          refine Rg.op 3 (some 109) hS (v := ?v3xn) (a' := ?a3xn) (hy := fun wz hwz => ?h3xn) (ha := ?b3xn) (h := ?_)
          case h3xn => (go_simp; try with_reducible rfl)
          case b3xn => (simp only [Act.put, List.setIfInBounds_toArray, List.set_cons_zero, List.set_cons_succ]; rfl)
          refine Rg.op 4 (some 110) hS (v := ?v4xn) (a' := ?a4xn) (hy := fun wz hwz => ?h4xn) (ha := ?b4xn) (h := ?_)
          case h4xn => (go_simp; try with_reducible rfl)
          case b4xn => (simp only [Act.put, List.setIfInBounds_toArray, List.set_cons_zero, List.set_cons_succ]; rfl)
          refine Rg.op 5 (some 111) hS (v := (.bool false)) (a' := ?a5xn) (hy := fun wz hwz => ?h5xn) (ha := ?b5xn) (h := ?_)
          case h5xn => (have u1 : ((m : Int) == 0) = false := (by rw [beq_eq_false_iff_ne]; omega); go_simp; try with_reducible rfl)
          case b5xn => (simp only [Act.put, List.setIfInBounds_toArray, List.set_cons_zero, List.set_cons_succ]; rfl)
          refine Rg.op 6 (some 112) hS (v := ?v6xn) (a' := ?a6xn) (hy := fun wz hwz => ?h6xn) (ha := ?b6xn) (h := ?_)
          case h6xn => (go_simp; try with_reducible rfl)
          case b6xn => (simp only [Act.put, List.setIfInBounds_toArray, List.set_cons_zero, List.set_cons_succ]; rfl)
          refine Rg.op 7 (some 113) hS (v := ?v7xn) (a' := ?a7xn) (hy := fun wz hwz => ?h7xn) (ha := ?b7xn) (h := ?_)
          case h7xn => (go_simp; try with_reducible rfl)
          case b7xn => (simp only [Act.put, List.setIfInBounds_toArray, List.set_cons_zero, List.set_cons_succ]; rfl)
          refine Rg.op 8 (some 114) hS (v := ?v8xn) (a' := ?a8xn) (hy := fun wz hwz => ?h8xn) (ha := ?b8xn) (h := ?_)
          case h8xn => (go_simp; try with_reducible rfl)
          case b8xn => (simp only [Act.put, List.setIfInBounds_toArray, List.set_cons_zero, List.set_cons_succ]; rfl)
          refine Rg.op 9 (some 115) hS (v := ?v9xn) (a' := ?a9xn) (hy := fun wz hwz => ?h9xn) (ha := ?b9xn) (h := ?_)
          case h9xn => (go_simp; try with_reducible rfl)
          case b9xn => (simp only [Act.put, List.setIfInBounds_toArray, List.set_cons_zero, List.set_cons_succ]; rfl)
          refine Rg.op 10 (some 116) hS (v := ?v10xn) (a' := ?a10xn) (hy := fun wz hwz => ?h10xn) (ha := ?b10xn) (h := ?_)
          case h10xn => (go_simp; try with_reducible rfl)
          case b10xn => (simp only [Act.put, List.setIfInBounds_toArray, List.set_cons_zero, List.set_cons_succ]; rfl)
          refine Rg.op 11 (some 117) hS (v := ?v11xn) (a' := ?a11xn) (hy := fun wz hwz => ?h11xn) (ha := ?b11xn) (h := ?_)
          case h11xn => (have u2 : IntKind.i64.wrap ((ev : Int) + 1) = (ev : Int) + 1 := (by rw [IntKind.wrap_i64]; omega); go_simp; try with_reducible rfl)
          case b11xn => (simp only [Act.put, List.setIfInBounds_toArray, List.set_cons_zero, List.set_cons_succ]; rfl)
          refine Rg.op 12 (some 118) hS (v := (.bool false)) (a' := ?a12xn) (hy := fun wz hwz => ?h12xn) (ha := ?b12xn) (h := ?_)
          case h12xn => (have u3 : decide ((ev : Int) + 1 < (m : Int)) = false := (by rw [decide_eq_false_iff_not]; omega); go_simp; try with_reducible rfl)
          case b12xn => (simp only [Act.put, List.setIfInBounds_toArray, List.set_cons_zero, List.set_cons_succ]; rfl)
          refine Rg.op 13 (some 119) hS (v := ?v13xn) (a' := ?a13xn) (hy := fun wz hwz => ?h13xn) (ha := ?b13xn) (h := ?_)
          case h13xn => (go_simp; try with_reducible rfl)
          case b13xn => (simp only [Act.put, List.setIfInBounds_toArray, List.set_cons_zero, List.set_cons_succ]; rfl)
          refine Rg.op 14 (some 120) hS (v := ?v14xn) (a' := ?a14xn) (hy := fun wz hwz => ?h14xn) (ha := ?b14xn) (h := ?_)
          case h14xn => (go_simp; try with_reducible rfl)
          case b14xn => (simp only [Act.put, List.setIfInBounds_toArray, List.set_cons_zero, List.set_cons_succ]; rfl)
          refine Rg.op 15 (some 121) hS (v := ?v15xn) (a' := ?a15xn) (hy := fun wz hwz => ?h15xn) (ha := ?b15xn) (h := ?_)
          case h15xn => (go_simp; try with_reducible rfl)
          case b15xn => (simp only [Act.put, List.setIfInBounds_toArray, List.set_cons_zero, List.set_cons_succ]; rfl)
          refine Rg.op 16 (some 122) hS (v := ?v16xn) (a' := ?a16xn) (hy := fun wz hwz => ?h16xn) (ha := ?b16xn) (h := ?_)
          case h16xn => (go_simp; try with_reducible rfl)
          case b16xn => (simp only [Act.put, List.setIfInBounds_toArray, List.set_cons_zero, List.set_cons_succ]; rfl)
          refine Rg.op 17 (some 123) hS (v := ?v17xn) (a' := ?a17xn) (hy := fun wz hwz => ?h17xn) (ha := ?b17xn) (h := ?_)
          case h17xn => (go_simp; try with_reducible rfl)
          case b17xn => (simp only [Act.put, List.setIfInBounds_toArray, List.set_cons_zero, List.set_cons_succ]; rfl)
          refine Rg.op 18 (some 124) hS (v := (.int .i64 m')) (a' := ?a18xn) (hy := fun wz hwz => ?h18xn) (ha := ?b18xn) (h := ?_)
          case h18xn => (have u4 : IntKind.i64.wrap (m' : Int) = (m' : Int) := (by rw [IntKind.wrap_i64]; omega); go_simp; try with_reducible rfl)
          case b18xn => (simp only [Act.put, List.setIfInBounds_toArray, List.set_cons_zero, List.set_cons_succ]; rfl)
          refine Rg.op 19 (some 125) hS (v := ?v19xn) (a' := ?a19xn) (hy := fun wz hwz => ?h19xn) (ha := ?b19xn) (h := ?_)
          case h19xn => (have u1 : (0 : Int) ≤ (m' : Int) := (by omega); have u2 : (m' : Int) < (m : Int) := (by omega); go_simp; try with_reducible rfl)
          case b19xn => (simp only [Act.put, List.setIfInBounds_toArray, List.set_cons_zero, List.set_cons_succ]; rfl)
          refine Rg.op 20 (some 126) hS (v := ?v20xn) (a' := ?a20xn) (hy := fun wz hwz => ?h20xn) (ha := ?b20xn) (h := ?_)
          case h20xn => (have cx := (hwz.cell hxlt (fun h => h)).trans HCx.out; go_simp; try with_reducible rfl)
          case b20xn => (simp only [Act.put, List.setIfInBounds_toArray, List.set_cons_zero, List.set_cons_succ]; rfl)
          refine Rg.op 21 (some 127) hS (v := ?v21xn) (a' := ?a21xn) (hy := fun wz hwz => ?h21xn) (ha := ?b21xn) (h := ?_)
          case h21xn => (go_simp; try with_reducible rfl)
          case b21xn => (simp only [Act.put, List.setIfInBounds_toArray, List.set_cons_zero, List.set_cons_succ]; rfl)
          refine Rg.op 22 (some 128) hS (v := ?v22xn) (a' := ?a22xn) (hy := fun wz hwz => ?h22xn) (ha := ?b22xn) (h := ?_)
          case h22xn => (go_simp; try with_reducible rfl)
          case b22xn => (simp only [Act.put, List.setIfInBounds_toArray, List.set_cons_zero, List.set_cons_succ]; rfl)
          refine Rg.call 23 (some 129) (hrun := ?h23xn) (hcall := HRc.out) (h := ?_)
          case h23xn => (go_simp)
          rintro e w5 ⟨rfl, hb5, hf5⟩
          have hS5 : Fr Nob wT w5 := hS.trans hf5
          have HCv := Lib.hid (conv_in (bytesIn_of hb5) lg)
          rw [hrl, show wT.drew.heap.size = wT.heap.size from rfl] at HCv
          clear hb5 hf5
          refine ⟨_, ?a23xn, rfl, ?b23xn, (fun _ => hS5), ?_⟩
          case b23xn => (simp only [Act.put, List.setIfInBounds_toArray, List.set_cons_zero, List.set_cons_succ]; rfl)
          refine Rg.run 24 (some 130) (v := (.string ⟨rb.toArray⟩)) (a' := ?a24xn) (w' := (w5)) (hrun := ?h24xn) (ha := ?b24xn) (hS := (fun _ => hS5)) (h := ?_)
          case h24xn => (have hcv := HCv.out; go_simp; try with_reducible rfl)
          case b24xn => (simp only [Act.put, List.setIfInBounds_toArray, List.set_cons_zero, List.set_cons_succ]; rfl)
          refine Rg.op 25 (some 131) hS5 (v := (.bool false)) (a' := ?a25xn) (hy := fun wz hwz => ?h25xn) (ha := ?b25xn) (h := ?_)
          case h25xn => (go_simp; try with_reducible rfl)
          case b25xn => (simp only [Act.put, List.setIfInBounds_toArray, List.set_cons_zero, List.set_cons_succ]; rfl)
          refine Rg.op 26 (some 132) hS5 (v := ?v26xn) (a' := ?a26xn) (hy := fun wz hwz => ?h26xn) (ha := ?b26xn) (h := ?_)
          case h26xn => (go_simp; try with_reducible rfl)
          case b26xn => (simp only [Act.put, List.setIfInBounds_toArray, List.set_cons_zero, List.set_cons_succ]; rfl)
          refine Rg.op 27 (some 133) hS5 (v := ?v27xn) (a' := ?a27xn) (hy := fun wz hwz => ?h27xn) (ha := ?b27xn) (h := ?_)
          case h27xn => (go_simp; try with_reducible rfl)
          case b27xn => (simp only [Act.put, List.setIfInBounds_toArray, List.set_cons_zero, List.set_cons_succ]; rfl)
          refine Rg.op 28 (some 134) hS5 (v := ?v28xn) (a' := ?a28xn) (hy := fun wz hwz => ?h28xn) (ha := ?b28xn) (h := ?_)
          case h28xn => (go_simp; try with_reducible rfl)
          case b28xn => (simp only [Act.put, List.setIfInBounds_toArray, List.set_cons_zero, List.set_cons_succ]; rfl)
          refine Rg.op 30 (some 136) hS5 (v := ?v30xn) (a' := ?a30xn) (hy := fun wz hwz => ?h30xn) (ha := ?b30xn) (h := ?_)
          case h30xn => (go_simp; try with_reducible rfl)
          case b30xn => (simp only [Act.put, List.setIfInBounds_toArray, List.set_cons_zero, List.set_cons_succ]; rfl)
          refine Rg.op 31 (some 137) hS5 (v := (.int .i64 ((a1 + 1 : Nat) : Int))) (a' := ?a31xn) (hy := fun wz hwz => ?h31xn) (ha := ?b31xn) (h := ?_)
          case h31xn => (have u5 : IntKind.i64.wrap ((a1 : Int) + 1) = ((a1 + 1 : Nat) : Int) := (by rw [IntKind.wrap_i64]; omega); go_simp; try with_reducible rfl)
          case b31xn => (simp only [Act.put, List.setIfInBounds_toArray, List.set_cons_zero, List.set_cons_succ]; rfl)
          refine Rg.op 32 (some 138) hS5 (v := (.int .u64 ((a1 + 1 : Nat) : Int))) (a' := ?a32xn) (hy := fun wz hwz => ?h32xn) (ha := ?b32xn) (h := ?_)
          case h32xn => (have u6 : IntKind.u64.wrap ((a1 : Int) + 1) = (a1 : Int) + 1 := (by rw [IntKind.wrap_u64]; omega); go_simp; try with_reducible rfl)
          case b32xn => (simp only [Act.put, List.setIfInBounds_toArray, List.set_cons_zero, List.set_cons_succ]; rfl)
          refine Rg.call 29 (some 135) (hrun := ?h29xn) (hcall := (HRT.out.new hS5).next) (h := ?_)
          case h29xn => (go_simp)
          rintro e w6 ⟨rfl, rfl⟩
          refine ⟨_, ?a29xn, rfl, ?b29xn, (fun _ => hS5), ?_⟩
          case b29xn => (simp only [Act.put, List.setIfInBounds_toArray, List.set_cons_zero, List.set_cons_succ]; rfl)
          refine Rg.op 33 (some 139) hS5 (v := (.bool false)) (a' := ?a33xn) (hy := fun wz hwz => ?h33xn) (ha := ?b33xn) (h := ?_)
          case h33xn => (go_simp; try with_reducible rfl)
          case b33xn => (simp only [Act.put, List.setIfInBounds_toArray, List.set_cons_zero, List.set_cons_succ]; rfl)
          refine Rg.op 34 (some 140) hS5 (v := ?v34xn) (a' := ?a34xn) (hy := fun wz hwz => ?h34xn) (ha := ?b34xn) (h := ?_)
          case h34xn => (go_simp; try with_reducible rfl)
          case b34xn => (simp only [Act.put, List.setIfInBounds_toArray, List.set_cons_zero, List.set_cons_succ]; rfl)
          refine Rg.done _ (h := ?_)
          go_wp2
          go_roundw
          case rel => exact ⟨q, a1, a1 + 1, a1, true, rfl, by omega, rfl, by go_num, by have := HRT.out.new hS5; have e := HA1.out; rw [show 2 * a1 = 2 * a + 1 + 1 from by omega]; exact this.more, HSX⟩
          case measure => simp [intOf]; omega
      · have txe : ((xe : Int) == 0) = false := by rw [beq_eq_false_iff_ne]; omega
        have HSX := Lib.hid (HS4.out (by rw [HXe.out]; exact hxe0))
        have HRX := HRB
        clear HRB HS3 HS4
        by_cases hxc0 : xc = 0
        · subst hxc0
          have HFl := Lib.hid (HRX.out.flushed (by omega) (by omega) (by omega) (by omega))
          clear HRX
          go_wp2_with fail
          refine HFl.out.mono ?_
          rintro e wF ⟨rfl, hRF⟩
          have HCr := Lib.hid hRF.disk.crashed
          clear hRF HFl
          go_wp2_with fail
          refine HCr.out.mono ?_
          rintro e wG ⟨rfl, hDG⟩
          have HOp := Lib.hid (hDG.opened (by omega) (by omega))
          clear hDG HCr
          go_wp2_with fail
          refine HOp.out.mono ?_
          rintro e wH ⟨q2, rfl, hRH⟩
          have HRX := Lib.hid hRH
          clear hRH HOp
          have HTo := Lib.hid (HRX.out.told (by omega))
          have hln := HSX.out.len ha1p
          obtain ⟨m, hm⟩ : ∃ m, a1 + 1 - fs = m := ⟨_, rfl⟩
          rw [hm] at HTo hln
          have hm0 : 0 < m := hln.2.2
          have hm1 : m ≤ ev + 1 := hln.2.1
          clear hln
          go_wp2_with fail
          refine HTo.out.mono ?_
          rintro e wT ⟨A, cp, rfl, hown, hfT⟩
          have HRT := Lib.hid (HRX.out.new hfT)
          obtain ⟨g, cap, e, _, hglt⟩ := hown.form hm0
          injection e with e1 e2 e3
          subst e1 e3
          clear e2
          have hcx := hown.cellAt ((m - 1) * 1) (by omega)
          rw [Nat.mul_one] at hcx
          have hsx : (strCells (recsR lg fs a1))[m - 1]? = some (strv (recB a1 lg)) := by
            unfold strCells
            rw [List.getElem?_map, recsR_get _ _ _ _ (by omega), show fs + (m - 1) = a1 from by omega]; rfl
          rw [hsx] at hcx
          have HCx := Lib.hid hcx
          have hxlt := cell_lt hcx
          clear hfT hown hsx hcx HTo HRX hm
          have hrl := recB_length a1 lg
          obtain ⟨rb, hrb⟩ : ∃ rb, recB a1 lg = rb := ⟨_, rfl⟩
          rw [hrb] at hrl HCx
          have HCx : Hid (wT.cell? ⟨g, m - 1, none⟩ = some (.string ⟨rb.toArray⟩)) := HCx
          obtain ⟨m', hm'⟩ : ∃ x, m - 1 = x := ⟨_, rfl⟩
          have hmI : (m : Int) - 1 = (m' : Int) := by omega
          rw [hm'] at HCx hxlt
          clear hm'
          go_wp2
          have hS : Fr Nob wT wT.drew := (Fr.refl _ wT).drew
          have HRc := Lib.hid (Rec_any a1 lg (by omega) (by omega) wT.drew)
          rw [hrb] at HRc
          refine Rg.begin (Fr Nob wT) [] (by kernel_rfl) ?_
          refine Rg.op 0 (some 106) hS (v := ?v0yc) (a' := ?a0yc) (hy := fun wz hwz => ?h0yc) (ha := ?b0yc) (h := ?_)
          case h0yc => (go_simp; try with_reducible rfl)
          case b0yc => (simp only [Act.put, List.setIfInBounds_toArray, List.set_cons_zero, List.set_cons_succ]; rfl)
          refine Rg.op 1 (some 107) hS (v := ?v1yc) (a' := ?a1yc) (hy := fun wz hwz => ?h1yc) (ha := ?b1yc) (h := ?_)
          case h1yc => (go_simp; try with_reducible rfl)
          case b1yc => (simp only [Act.put, List.setIfInBounds_toArray, List.set_cons_zero, List.set_cons_succ]; rfl)
          refine Rg.op 2 (some 108) hS (v := ?v2yc) (a' := ?a2yc) (hy := fun wz hwz => ?h2yc) (ha := ?b2yc) (h := ?_)
          case h2yc => (go_simp; try with_reducible rfl)
          case b2yc => (simp only [Act.put, List.setIfInBounds_toArray, List.set_cons_zero, List.set_cons_succ]; rfl)
          refine Rg.op 3 (some 109) hS (v := ?v3yc) (a' := ?a3yc) (hy := fun wz hwz => ?h3yc) (ha := ?b3yc) (h := ?_)
          case h3yc => (go_simp; try with_reducible rfl)
          case b3yc => (simp only [Act.put, List.setIfInBounds_toArray, List.set_cons_zero, List.set_cons_succ]; rfl)
          refine Rg.op 4 (some 110) hS (v := ?v4yc) (a' := ?a4yc) (hy := fun wz hwz => ?h4yc) (ha := ?b4yc) (h := ?_)
          case h4yc => (go_simp; try with_reducible rfl)
          case b4yc => (simp only [Act.put, List.setIfInBounds_toArray, List.set_cons_zero, List.set_cons_succ]; rfl)
          refine Rg.op 5 (some 111) hS (v := (.bool false)) (a' := ?a5yc) (hy := fun wz hwz => ?h5yc) (ha := ?b5yc) (h := ?_)
          case h5yc => (have u1 : ((m : Int) == 0) = false := (by rw [beq_eq_false_iff_ne]; omega); go_simp; try with_reducible rfl)
          case b5yc => (simp only [Act.put, List.setIfInBounds_toArray, List.set_cons_zero, List.set_cons_succ]; rfl)
          refine Rg.op 6 (some 112) hS (v := ?v6yc) (a' := ?a6yc) (hy := fun wz hwz => ?h6yc) (ha := ?b6yc) (h := ?_)
          case h6yc => (go_simp; try with_reducible rfl)
          case b6yc => (simp only [Act.put, List.setIfInBounds_toArray, List.set_cons_zero, List.set_cons_succ]; rfl)
          refine Rg.op 7 (some 113) hS (v := ?v7yc) (a' := ?a7yc) (hy := fun wz hwz => ?h7yc) (ha := ?b7yc) (h := ?_)
          case h7yc => (go_simp; try with_reducible rfl)
          case b7yc => (simp only [Act.put, List.setIfInBounds_toArray, List.set_cons_zero, List.set_cons_succ]; rfl)
          refine Rg.op 8 (some 114) hS (v := ?v8yc) (a' := ?a8yc) (hy := fun wz hwz => ?h8yc) (ha := ?b8yc) (h := ?_)
          case h8yc => (go_simp; try with_reducible rfl)
          case b8yc => (simp only [Act.put, List.setIfInBounds_toArray, List.set_cons_zero, List.set_cons_succ]; rfl)
          refine Rg.op 9 (some 115) hS (v := ?v9yc) (a' := ?a9yc) (hy := fun wz hwz => ?h9yc) (ha := ?b9yc) (h := ?_)
          case h9yc => (go_simp; try with_reducible rfl)
          case b9yc => (simp only [Act.put, List.setIfInBounds_toArray, List.set_cons_zero, List.set_cons_succ]; rfl)
          refine Rg.op 10 (some 116) hS (v := ?v10yc) (a' := ?a10yc) (hy := fun wz hwz => ?h10yc) (ha := ?b10yc) (h := ?_)
          case h10yc => (go_simp; try with_reducible rfl)
          case b10yc => (simp only [Act.put, List.setIfInBounds_toArray, List.set_cons_zero, List.set_cons_succ]; rfl)
          refine Rg.op 11 (some 117) hS (v := ?v11yc) (a' := ?a11yc) (hy := fun wz hwz => ?h11yc) (ha := ?b11yc) (h := ?_)
          case h11yc => (have u2 : IntKind.i64.wrap ((ev : Int) + 1) = (ev : Int) + 1 := (by rw [IntKind.wrap_i64]; omega); go_simp; try with_reducible rfl)
          case b11yc => (simp only [Act.put, List.setIfInBounds_toArray, List.set_cons_zero, List.set_cons_succ]; rfl)
          refine Rg.op 12 (some 118) hS (v := (.bool false)) (a' := ?a12yc) (hy := fun wz hwz => ?h12yc) (ha := ?b12yc) (h := ?_)
          case h12yc => (have u3 : decide ((ev : Int) + 1 < (m : Int)) = false := (by rw [decide_eq_false_iff_not]; omega); go_simp; try with_reducible rfl)
          case b12yc => (simp only [Act.put, List.setIfInBounds_toArray, List.set_cons_zero, List.set_cons_succ]; rfl)
          refine Rg.op 13 (some 119) hS (v := ?v13yc) (a' := ?a13yc) (hy := fun wz hwz => ?h13yc) (ha := ?b13yc) (h := ?_)
          case h13yc => (go_simp; try with_reducible rfl)
          case b13yc => (simp only [Act.put, List.setIfInBounds_toArray, List.set_cons_zero, List.set_cons_succ]; rfl)
          refine Rg.op 14 (some 120) hS (v := ?v14yc) (a' := ?a14yc) (hy := fun wz hwz => ?h14yc) (ha := ?b14yc) (h := ?_)
          case h14yc => (go_simp; try with_reducible rfl)
          case b14yc => (simp only [Act.put, List.setIfInBounds_toArray, List.set_cons_zero, List.set_cons_succ]; rfl)
          refine Rg.op 15 (some 121) hS (v := ?v15yc) (a' := ?a15yc) (hy := fun wz hwz => ?h15yc) (ha := ?b15yc) (h := ?_)
          case h15yc => (go_simp; try with_reducible rfl)
          case b15yc => (simp only [Act.put, List.setIfInBounds_toArray, List.set_cons_zero, List.set_cons_succ]; rfl)
          refine Rg.op 16 (some 122) hS (v := ?v16yc) (a' := ?a16yc) (hy := fun wz hwz => ?h16yc) (ha := ?b16yc) (h := ?_)
          case h16yc => (go_simp; try with_reducible rfl)
          case b16yc => (simp only [Act.put, List.setIfInBounds_toArray, List.set_cons_zero, List.set_cons_succ]; rfl)
          refine Rg.op 17 (some 123) hS (v := ?v17yc) (a' := ?a17yc) (hy := fun wz hwz => ?h17yc) (ha := ?b17yc) (h := ?_)
          case h17yc => (go_simp; try with_reducible rfl)
          case b17yc => (simp only [Act.put, List.setIfInBounds_toArray, List.set_cons_zero, List.set_cons_succ]; rfl)
          refine Rg.op 18 (some 124) hS (v := (.int .i64 m')) (a' := ?a18yc) (hy := fun wz hwz => ?h18yc) (ha := ?b18yc) (h := ?_)
          case h18yc => (have u4 : IntKind.i64.wrap (m' : Int) = (m' : Int) := (by rw [IntKind.wrap_i64]; omega); go_simp; try with_reducible rfl)
          case b18yc => (simp only [Act.put, List.setIfInBounds_toArray, List.set_cons_zero, List.set_cons_succ]; rfl)
          refine Rg.op 19 (some 125) hS (v := ?v19yc) (a' := ?a19yc) (hy := fun wz hwz => ?h19yc) (ha := ?b19yc) (h := ?_)
          case h19yc => (have u1 : (0 : Int) ≤ (m' : Int) := (by omega); have u2 : (m' : Int) < (m : Int) := (by omega); go_simp; try with_reducible rfl)
          case b19yc => (simp only [Act.put, List.setIfInBounds_toArray, List.set_cons_zero, List.set_cons_succ]; rfl)
          refine Rg.op 20 (some 126) hS (v := ?v20yc) (a' := ?a20yc) (hy := fun wz hwz => ?h20yc) (ha := ?b20yc) (h := ?_)
          case h20yc => (have cx := (hwz.cell hxlt (fun h => h)).trans HCx.out; go_simp; try with_reducible rfl)
          case b20yc => (simp only [Act.put, List.setIfInBounds_toArray, List.set_cons_zero, List.set_cons_succ]; rfl)
          refine Rg.op 21 (some 127) hS (v := ?v21yc) (a' := ?a21yc) (hy := fun wz hwz => ?h21yc) (ha := ?b21yc) (h := ?_)
          case h21yc => (go_simp; try with_reducible rfl)
          case b21yc => (simp only [Act.put, List.setIfInBounds_toArray, List.set_cons_zero, List.set_cons_succ]; rfl)
          refine Rg.op 22 (some 128) hS (v := ?v22yc) (a' := ?a22yc) (hy := fun wz hwz => ?h22yc) (ha := ?b22yc) (h := ?_)
          case h22yc => (go_simp; try with_reducible rfl)
          case b22yc => (simp only [Act.put, List.setIfInBounds_toArray, List.set_cons_zero, List.set_cons_succ]; rfl)
          refine Rg.call 23 (some 129) (hrun := ?h23yc) (hcall := HRc.out) (h := ?_)
          case h23yc => (go_simp)
          rintro e w5 ⟨rfl, hb5, hf5⟩
          have hS5 : Fr Nob wT w5 := hS.trans hf5
          have HCv := Lib.hid (conv_in (bytesIn_of hb5) lg)
          rw [hrl, show wT.drew.heap.size = wT.heap.size from rfl] at HCv
          clear hb5 hf5
          refine ⟨_, ?a23yc, rfl, ?b23yc, (fun _ => hS5), ?_⟩
          case b23yc => (simp only [Act.put, List.setIfInBounds_toArray, List.set_cons_zero, List.set_cons_succ]; rfl)
          refine Rg.run 24 (some 130) (v := (.string ⟨rb.toArray⟩)) (a' := ?a24yc) (w' := (w5)) (hrun := ?h24yc) (ha := ?b24yc) (hS := (fun _ => hS5)) (h := ?_)
          case h24yc => (have hcv := HCv.out; go_simp; try with_reducible rfl)
          case b24yc => (simp only [Act.put, List.setIfInBounds_toArray, List.set_cons_zero, List.set_cons_succ]; rfl)
          refine Rg.op 25 (some 131) hS5 (v := (.bool false)) (a' := ?a25yc) (hy := fun wz hwz => ?h25yc) (ha := ?b25yc) (h := ?_)
          case h25yc => (go_simp; try with_reducible rfl)
          case b25yc => (simp only [Act.put, List.setIfInBounds_toArray, List.set_cons_zero, List.set_cons_succ]; rfl)
          refine Rg.op 26 (some 132) hS5 (v := ?v26yc) (a' := ?a26yc) (hy := fun wz hwz => ?h26yc) (ha := ?b26yc) (h := ?_)
          case h26yc => (go_simp; try with_reducible rfl)
          case b26yc => (simp only [Act.put, List.setIfInBounds_toArray, List.set_cons_zero, List.set_cons_succ]; rfl)
          refine Rg.op 27 (some 133) hS5 (v := ?v27yc) (a' := ?a27yc) (hy := fun wz hwz => ?h27yc) (ha := ?b27yc) (h := ?_)
          case h27yc => (go_simp; try with_reducible rfl)
          case b27yc => (simp only [Act.put, List.setIfInBounds_toArray, List.set_cons_zero, List.set_cons_succ]; rfl)
          refine Rg.op 28 (some 134) hS5 (v := ?v28yc) (a' := ?a28yc) (hy := fun wz hwz => ?h28yc) (ha := ?b28yc) (h := ?_)
          case h28yc => (go_simp; try with_reducible rfl)
          case b28yc => (simp only [Act.put, List.setIfInBounds_toArray, List.set_cons_zero, List.set_cons_succ]; rfl)
          refine Rg.op 30 (some 136) hS5 (v := ?v30yc) (a' := ?a30yc) (hy := fun wz hwz => ?h30yc) (ha := ?b30yc) (h := ?_)
          case h30yc => (go_simp; try with_reducible rfl)
          case b30yc => (simp only [Act.put, List.setIfInBounds_toArray, List.set_cons_zero, List.set_cons_succ]; rfl)
          refine Rg.op 31 (some 137) hS5 (v := (.int .i64 ((a1 + 1 : Nat) : Int))) (a' := ?a31yc) (hy := fun wz hwz => ?h31yc) (ha := ?b31yc) (h := ?_)
          case h31yc => (have u5 : IntKind.i64.wrap ((a1 : Int) + 1) = ((a1 + 1 : Nat) : Int) := (by rw [IntKind.wrap_i64]; omega); go_simp; try with_reducible rfl)
          case b31yc => (simp only [Act.put, List.setIfInBounds_toArray, List.set_cons_zero, List.set_cons_succ]; rfl)
          refine Rg.op 32 (some 138) hS5 (v := (.int .u64 ((a1 + 1 : Nat) : Int))) (a' := ?a32yc) (hy := fun wz hwz => ?h32yc) (ha := ?b32yc) (h := ?_)
          case h32yc => (have u6 : IntKind.u64.wrap ((a1 : Int) + 1) = (a1 : Int) + 1 := (by rw [IntKind.wrap_u64]; omega); go_simp; try with_reducible rfl)
          case b32yc => (simp only [Act.put, List.setIfInBounds_toArray, List.set_cons_zero, List.set_cons_succ]; rfl)
          refine Rg.call 29 (some 135) (hrun := ?h29yc) (hcall := (HRT.out.new hS5).next) (h := ?_)
          case h29yc => (go_simp)
          rintro e w6 ⟨rfl, rfl⟩
          refine ⟨_, ?a29yc, rfl, ?b29yc, (fun _ => hS5), ?_⟩
          case b29yc => (simp only [Act.put, List.setIfInBounds_toArray, List.set_cons_zero, List.set_cons_succ]; rfl)
          refine Rg.op 33 (some 139) hS5 (v := (.bool false)) (a' := ?a33yc) (hy := fun wz hwz => ?h33yc) (ha := ?b33yc) (h := ?_)
          case h33yc => (go_simp; try with_reducible rfl)
          case b33yc => (simp only [Act.put, List.setIfInBounds_toArray, List.set_cons_zero, List.set_cons_succ]; rfl)
          refine Rg.op 34 (some 140) hS5 (v := ?v34yc) (a' := ?a34yc) (hy := fun wz hwz => ?h34yc) (ha := ?b34yc) (h := ?_)
          case h34yc => (go_simp; try with_reducible rfl)
          case b34yc => (simp only [Act.put, List.setIfInBounds_toArray, List.set_cons_zero, List.set_cons_succ]; rfl)
          refine Rg.done _ (h := ?_)
          go_wp2
          go_roundw
          case rel => exact ⟨q2, a1, a1 + 1, fs, true, rfl, by omega, rfl, by go_num, by have := HRT.out.new hS5; have e := HA1.out; rw [show 2 * a1 = 2 * a + 1 + 1 from by omega]; exact this.more, HSX⟩
          case measure => simp [intOf]; omega
        · have txc : ((xc : Int) == 0) = false := by rw [beq_eq_false_iff_ne]; omega
          have HTo := Lib.hid (HRX.out.told (by omega))
          have hln := HSX.out.len ha1p
          obtain ⟨m, hm⟩ : ∃ m, a1 + 1 - fs = m := ⟨_, rfl⟩
          rw [hm] at HTo hln
          have hm0 : 0 < m := hln.2.2
          have hm1 : m ≤ ev + 1 := hln.2.1
          clear hln
          go_wp2_with fail
          refine HTo.out.mono ?_
          rintro e wT ⟨A, cp, rfl, hown, hfT⟩
          have HRT := Lib.hid (HRX.out.new hfT)
          obtain ⟨g, cap, e, _, hglt⟩ := hown.form hm0
          injection e with e1 e2 e3
          subst e1 e3
          clear e2
          have hcx := hown.cellAt ((m - 1) * 1) (by omega)
          rw [Nat.mul_one] at hcx
          have hsx : (strCells (recsR lg fs a1))[m - 1]? = some (strv (recB a1 lg)) := by
            unfold strCells
            rw [List.getElem?_map, recsR_get _ _ _ _ (by omega), show fs + (m - 1) = a1 from by omega]; rfl
          rw [hsx] at hcx
          have HCx := Lib.hid hcx
          have hxlt := cell_lt hcx
          clear hfT hown hsx hcx HTo HRX hm
          have hrl := recB_length a1 lg
          obtain ⟨rb, hrb⟩ : ∃ rb, recB a1 lg = rb := ⟨_, rfl⟩
          rw [hrb] at hrl HCx
          have HCx : Hid (wT.cell? ⟨g, m - 1, none⟩ = some (.string ⟨rb.toArray⟩)) := HCx
          obtain ⟨m', hm'⟩ : ∃ x, m - 1 = x := ⟨_, rfl⟩
          have hmI : (m : Int) - 1 = (m' : Int) := by omega
          rw [hm'] at HCx hxlt
          clear hm'
          go_wp2
          have hS : Fr Nob wT wT.drew := (Fr.refl _ wT).drew
          have HRc := Lib.hid (Rec_any a1 lg (by omega) (by omega) wT.drew)
          rw [hrb] at HRc
          refine Rg.begin (Fr Nob wT) [] (by kernel_rfl) ?_
          refine Rg.op 0 (some 106) hS (v := ?v0yn) (a' := ?a0yn) (hy := fun wz hwz => ?h0yn) (ha := ?b0yn) (h := ?_)
          case h0yn => (go_simp; try with_reducible rfl)
          case b0yn => (simp only [Act.put, List.setIfInBounds_toArray, List.set_cons_zero, List.set_cons_succ]; rfl)
          refine Rg.op 1 (some 107) hS (v := ?v1yn) (a' := ?a1yn) (hy := fun wz hwz => ?h1yn) (ha := ?b1yn) (h := ?_)
          case h1yn => (go_simp; try with_reducible rfl)
          case b1yn => (simp only [Act.put, List.setIfInBounds_toArray, List.set_cons_zero, List.set_cons_succ]; rfl)
          refine Rg.op 2 (some 108) hS (v := ?v2yn) (a' := ?a2yn) (hy := fun wz hwz => ?h2yn) (ha := ?b2yn) (h := ?_)
          case h2yn => (go_simp; try with_reducible rfl)
          case b2yn => (simp only [Act.put, List.setIfInBounds_toArray, List.set_cons_zero, List.set_cons_succ]; rfl)
          refine Rg.op 3 (some 109) hS (v := ?v3yn) (a' := ?a3yn) (hy := fun wz hwz => ?h3yn) (ha := ?b3yn) (h := ?_)
          case h3yn => (go_simp; try with_reducible rfl)
          case b3yn => (simp only [Act.put, List.setIfInBounds_toArray, List.set_cons_zero, List.set_cons_succ]; rfl)
          refine Rg.op 4 (some 110) hS (v := ?v4yn) (a' := ?a4yn) (hy := fun wz hwz => ?h4yn) (ha := ?b4yn) (h := ?_)
          case h4yn => (go_simp; try with_reducible rfl)
          case b4yn => (simp only [Act.put, List.setIfInBounds_toArray, List.set_cons_zero, List.set_cons_succ]; rfl)
          refine Rg.op 5 (some 111) hS (v := (.bool false)) (a' := ?a5yn) (hy := fun wz hwz => ?h5yn) (ha := ?b5yn) (h := ?_)
          case h5yn => (have u1 : ((m : Int) == 0) = false := (by rw [beq_eq_false_iff_ne]; omega); go_simp; try with_reducible rfl)
          case b5yn => (simp only [Act.put, List.setIfInBounds_toArray, List.set_cons_zero, List.set_cons_succ]; rfl)
          refine Rg.op 6 (some 112) hS (v := ?v6yn) (a' := ?a6yn) (hy := fun wz hwz => ?h6yn) (ha := ?b6yn) (h := ?_)
          case h6yn => (go_simp; try with_reducible rfl)
          case b6yn => (simp only [Act.put, List.setIfInBounds_toArray, List.set_cons_zero, List.set_cons_succ]; rfl)
          refine Rg.op 7 (some 113) hS (v := ?v7yn) (a' := ?a7yn) (hy := fun wz hwz => ?h7yn) (ha := ?b7yn) (h := ?_)
          case h7yn => (go_simp; try with_reducible rfl)
          case b7yn => (simp only [Act.put, List.setIfInBounds_toArray, List.set_cons_zero, List.set_cons_succ]; rfl)
          refine Rg.op 8 (some 114) hS (v := ?v8yn) (a' := ?a8yn) (hy := fun wz hwz => ?h8yn) (ha := ?b8yn) (h := ?_)
          case h8yn => (go_simp; try with_reducible rfl)
          case b8yn => (simp only [Act.put, List.setIfInBounds_toArray, List.set_cons_zero, List.set_cons_succ]; rfl)
          refine Rg.op 9 (some 115) hS (v := ?v9yn) (a' := ?a9yn) (hy := fun wz hwz => ?h9yn) (ha := ?b9yn) (h := ?_)
          case h9yn => (go_simp; try with_reducible rfl)
          case b9yn => (simp only [Act.put, List.setIfInBounds_toArray, List.set_cons_zero, List.set_cons_succ]; rfl)
          refine Rg.op 10 (some 116) hS (v := ?v10yn) (a' := ?a10yn) (hy := fun wz hwz => ?h10yn) (ha := ?b10yn) (h := ?_)
          case h10yn => (go_simp; try with_reducible rfl)
          case b10yn => (simp only [Act.put, List.setIfInBounds_toArray, List.set_cons_zero, List.set_cons_succ]; rfl)
          refine Rg.op 11 (some 117) hS (v := ?v11yn) (a' := ?a11yn) (hy := fun wz hwz => ?h11yn) (ha := ?b11yn) (h := ?_)
          case h11yn => (have u2 : IntKind.i64.wrap ((ev : Int) + 1) = (ev : Int) + 1 := (by rw [IntKind.wrap_i64]; omega); go_simp; try with_reducible rfl)
          case b11yn => (simp only [Act.put, List.setIfInBounds_toArray, List.set_cons_zero, List.set_cons_succ]; rfl)
          refine Rg.op 12 (some 118) hS (v := (.bool false)) (a' := ?a12yn) (hy := fun wz hwz => ?h12yn) (ha := ?b12yn) (h := ?_)
          case h12yn => (have u3 : decide ((ev : Int) + 1 < (m : Int)) = false := (by rw [decide_eq_false_iff_not]; omega); go_simp; try with_reducible rfl)
          case b12yn => (simp only [Act.put, List.setIfInBounds_toArray, List.set_cons_zero, List.set_cons_succ]; rfl)
          refine Rg.op 13 (some 119) hS (v := ?v13yn) (a' := ?a13yn) (hy := fun wz hwz => ?h13yn) (ha := ?b13yn) (h := ?_)
          case h13yn => (go_simp; try with_reducible rfl)
          case b13yn => (simp only [Act.put, List.setIfInBounds_toArray, List.set_cons_zero, List.set_cons_succ]; rfl)
          refine Rg.op 14 (some 120) hS (v := ?v14yn) (a' := ?a14yn) (hy := fun wz hwz => ?h14yn) (ha := ?b14yn) (h := ?_)
          case h14yn => (go_simp; try with_reducible rfl)
          case b14yn => (simp only [Act.put, List.setIfInBounds_toArray, List.set_cons_zero, List.set_cons_succ]; rfl)
          refine Rg.op 15 (some 121) hS (v := ?v15yn) (a' := ?a15yn) (hy := fun wz hwz => ?h15yn) (ha := ?b15yn) (h := ?_)
          case h15yn => (go_simp; try with_reducible rfl)
          case b15yn => (simp only [Act.put, List.setIfInBounds_toArray, List.set_cons_zero, List.set_cons_succ]; rfl)
          refine Rg.op 16 (some 122) hS (v := ?v16yn) (a' := ?a16yn) (hy := fun wz hwz => ?h16yn) (ha := ?b16yn) (h := ?_)
          case h16yn => (go_simp; try with_reducible rfl)
          case b16yn => (simp only [Act.put, List.setIfInBounds_toArray, List.set_cons_zero, List.set_cons_succ]; rfl)
          refine Rg.op 17 (some 123) hS (v := ?v17yn) (a' := ?a17yn) (hy := fun wz hwz => ?h17yn) (ha := ?b17yn) (h := ?_)
          case h17yn => (go_simp; try with_reducible rfl)
          case b17yn => (simp only [Act.put, List.setIfInBounds_toArray, List.set_cons_zero, List.set_cons_succ]; rfl)
          refine Rg.op 18 (some 124) hS (v := (.int .i64 m')) (a' := ?a18yn) (hy := fun wz hwz => ?h18yn) (ha := ?b18yn) (h := ?_)
          case h18yn => (have u4 : IntKind.i64.wrap (m' : Int) = (m' : Int) := (by rw [IntKind.wrap_i64]; omega); go_simp; try with_reducible rfl)
          case b18yn => (simp only [Act.put, List.setIfInBounds_toArray, List.set_cons_zero, List.set_cons_succ]; rfl)
          refine Rg.op 19 (some 125) hS (v := ?v19yn) (a' := ?a19yn) (hy := fun wz hwz => ?h19yn) (ha := ?b19yn) (h := ?_)
          case h19yn => (have u1 : (0 : Int) ≤ (m' : Int) := (by omega); have u2 : (m' : Int) < (m : Int) := (by omega); go_simp; try with_reducible rfl)
          case b19yn => (simp only [Act.put, List.setIfInBounds_toArray, List.set_cons_zero, List.set_cons_succ]; rfl)
          refine Rg.op 20 (some 126) hS (v := ?v20yn) (a' := ?a20yn) (hy := fun wz hwz => ?h20yn) (ha := ?b20yn) (h := ?_)
          case h20yn => (have cx := (hwz.cell hxlt (fun h => h)).trans HCx.out; go_simp; try with_reducible rfl)
          case b20yn => (simp only [Act.put, List.setIfInBounds_toArray, List.set_cons_zero, List.set_cons_succ]; rfl)
          refine Rg.op 21 (some 127) hS (v := ?v21yn) (a' := ?a21yn) (hy := fun wz hwz => ?h21yn) (ha := ?b21yn) (h := ?_)
          case h21yn => (go_simp; try with_reducible rfl)
          case b21yn => (simp only [Act.put, List.setIfInBounds_toArray, List.set_cons_zero, List.set_cons_succ]; rfl)
          refine Rg.op 22 (some 128) hS (v := ?v22yn) (a' := ?a22yn) (hy := fun wz hwz => ?h22yn) (ha := ?b22yn) (h := ?_)
          case h22yn => (go_simp; try with_reducible rfl)
          case b22yn => (simp only [Act.put, List.setIfInBounds_toArray, List.set_cons_zero, List.set_cons_succ]; rfl)
          refine Rg.call 23 (some 129) (hrun := ?h23yn) (hcall := HRc.out) (h := ?_)
          case h23yn => (go_simp)
          rintro e w5 ⟨rfl, hb5, hf5⟩
          have hS5 : Fr Nob wT w5 := hS.trans hf5
          have HCv := Lib.hid (conv_in (bytesIn_of hb5) lg)
          rw [hrl, show wT.drew.heap.size = wT.heap.size from rfl] at HCv
          clear hb5 hf5
          refine ⟨_, ?a23yn, rfl, ?b23yn, (fun _ => hS5), ?_⟩
          case b23yn => (simp only [Act.put, List.setIfInBounds_toArray, List.set_cons_zero, List.set_cons_succ]; rfl)
          refine Rg.run 24 (some 130) (v := (.string ⟨rb.toArray⟩)) (a' := ?a24yn) (w' := (w5)) (hrun := ?h24yn) (ha := ?b24yn) (hS := (fun _ => hS5)) (h := ?_)
          case h24yn => (have hcv := HCv.out; go_simp; try with_reducible rfl)
          case b24yn => (simp only [Act.put, List.setIfInBounds_toArray, List.set_cons_zero, List.set_cons_succ]; rfl)
          refine Rg.op 25 (some 131) hS5 (v := (.bool false)) (a' := ?a25yn) (hy := fun wz hwz => ?h25yn) (ha := ?b25yn) (h := ?_)
          case h25yn => (go_simp; try with_reducible rfl)
          case b25yn => (simp only [Act.put, List.setIfInBounds_toArray, List.set_cons_zero, List.set_cons_succ]; rfl)
          refine Rg.op 26 (some 132) hS5 (v := ?v26yn) (a' := ?a26yn) (hy := fun wz hwz => ?h26yn) (ha := ?b26yn) (h := ?_)
          case h26yn => (go_simp; try with_reducible rfl)
          case b26yn => (simp only [Act.put, List.setIfInBounds_toArray, List.set_cons_zero, List.set_cons_succ]; rfl)
          refine Rg.op 27 (some 133) hS5 (v := ?v27yn) (a' := ?a27yn) (hy := fun wz hwz => ?h27yn) (ha := ?b27yn) (h := ?_)
          case h27yn => (go_simp; try with_reducible rfl)
          case b27yn => (simp only [Act.put, List.setIfInBounds_toArray, List.set_cons_zero, List.set_cons_succ]; rfl)
          refine Rg.op 28 (some 134) hS5 (v := ?v28yn) (a' := ?a28yn) (hy := fun wz hwz => ?h28yn) (ha := ?b28yn) (h := ?_)
          case h28yn => (go_simp; try with_reducible rfl)
          case b28yn => (simp only [Act.put, List.setIfInBounds_toArray, List.set_cons_zero, List.set_cons_succ]; rfl)
          refine Rg.op 30 (some 136) hS5 (v := ?v30yn) (a' := ?a30yn) (hy := fun wz hwz => ?h30yn) (ha := ?b30yn) (h := ?_)
          case h30yn => (go_simp; try with_reducible rfl)
          case b30yn => (simp only [Act.put, List.setIfInBounds_toArray, List.set_cons_zero, List.set_cons_succ]; rfl)
          refine Rg.op 31 (some 137) hS5 (v := (.int .i64 ((a1 + 1 : Nat) : Int))) (a' := ?a31yn) (hy := fun wz hwz => ?h31yn) (ha := ?b31yn) (h := ?_)
          case h31yn => (have u5 : IntKind.i64.wrap ((a1 : Int) + 1) = ((a1 + 1 : Nat) : Int) := (by rw [IntKind.wrap_i64]; omega); go_simp; try with_reducible rfl)
          case b31yn => (simp only [Act.put, List.setIfInBounds_toArray, List.set_cons_zero, List.set_cons_succ]; rfl)
          refine Rg.op 32 (some 138) hS5 (v := (.int .u64 ((a1 + 1 : Nat) : Int))) (a' := ?a32yn) (hy := fun wz hwz => ?h32yn) (ha := ?b32yn) (h := ?_)
          case h32yn => (have u6 : IntKind.u64.wrap ((a1 : Int) + 1) = (a1 : Int) + 1 := (by rw [IntKind.wrap_u64]; omega); go_simp; try with_reducible rfl)
          case b32yn => (simp only [Act.put, List.setIfInBounds_toArray, List.set_cons_zero, List.set_cons_succ]; rfl)
          refine Rg.call 29 (some 135) (hrun := ?h29yn) (hcall := (HRT.out.new hS5).next) (h := ?_)
          case h29yn => (go_simp)
          rintro e w6 ⟨rfl, rfl⟩
          refine ⟨_, ?a29yn, rfl, ?b29yn, (fun _ => hS5), ?_⟩
          case b29yn => (simp only [Act.put, List.setIfInBounds_toArray, List.set_cons_zero, List.set_cons_succ]; rfl)
          refine Rg.op 33 (some 139) hS5 (v := (.bool false)) (a' := ?a33yn) (hy := fun wz hwz => ?h33yn) (ha := ?b33yn) (h := ?_)
          case h33yn => (go_simp; try with_reducible rfl)
          case b33yn => (simp only [Act.put, List.setIfInBounds_toArray, List.set_cons_zero, List.set_cons_succ]; rfl)
          refine Rg.op 34 (some 140) hS5 (v := ?v34yn) (a' := ?a34yn) (hy := fun wz hwz => ?h34yn) (ha := ?b34yn) (h := ?_)
          case h34yn => (go_simp; try with_reducible rfl)
          case b34yn => (simp only [Act.put, List.setIfInBounds_toArray, List.set_cons_zero, List.set_cons_succ]; rfl)
          refine Rg.done _ (h := ?_)
          go_wp2
          go_roundw
          case rel => exact ⟨q, a1, a1 + 1, fs, false, rfl, by omega, rfl, by go_num, by have := HRT.out.new hS5; have e := HA1.out; rw [show 2 * a1 = 2 * a + 1 + 1 from by omega]; exact this.more.more, HSX⟩
          case measure => simp [intOf]; omega
    · obtain rfl : a1 = 61 := by omega
      have HN := Lib.hid hR.out.news
      clear hR
      go_wp2_with fail
      refine (awake4_any _).mono ?_
      rintro e wI ⟨rfl, hfI⟩
      have HFI := Lib.hid ((HN.out.new hfI).fr)
      clear hfI
      go_wp2
      go_ret
      exact ⟨rfl, HFI.out⟩
end Go.Proofs.Ytieiopeblleheaa
