/-
  PoolCrashes, in one text.
-/
import Derived.Test.YtccmmnacejdeoaaGreatDoorMg38
import Derived.Test.YtccmmnacejdeoaaGreatDoorMg24
import Derived.Deep.DeepCutAuto
import Derived.Deep.CutBlock
/-
  PoolCrashes walked.
-/
namespace Go.Proofs.YtccmmnacejdeoaaGreatDoor
set_option linter.unusedSimpArgs false
set_option linter.unusedVariables false
open Go.RowKit Go.Maps

theorem keep_out {w0 w : World} {A : Option Addr} {ks : List Int} (h : IntsIn w0 A ks) (hf : Fr Nob w0 w) {R : Nat → Prop} (hR : ∀ b, R b → w0.heap.size ≤ b) : IntsOut R w A ks := by
  refine ⟨h.1, fun h0 => ?_⟩
  obtain ⟨kb, ko, e, hc⟩ := h.2 h0
  have hlt : kb < w0.heap.size := by
    obtain ⟨x, hx⟩ : ∃ x, ks[0]? = some x := ⟨_, List.getElem?_eq_getElem h0⟩
    exact cell_lt (hc 0 x hx)
  refine ⟨kb, ko, e, fun hr => by have := hR kb hr; omega, fun j x hx => ?_⟩
  exact (hf.cell (p := ⟨kb, ko + j, none⟩) hlt (fun h => h)).trans (hc j x hx)
theorem ecode_facts (cb : Bool) : (ecode cb != 0) = cb ∧ (ecode cb == 0) = (!cb) ∧ decide (ecode cb = 0) = (!cb) ∧ decide (ecode cb ≠ 0) = cb := by cases cb <;> exact ⟨rfl, rfl, rfl, rfl⟩
set_option maxHeartbeats 25600000 in
set_option maxRecDepth 100000 in
theorem PoolCrashes_row (a : Int) (A0 : Option Addr) (c0 : Nat) (os : List (Int × Int × Int)) (A2 : Option Addr) (c2 : Nat) (ks : List Int) (b : Int) (w : World) (hr : Ops5In w A0 os) (hk : IntsIn w A2 ks) (hreach : ks.length * 8 ≤ 140737488351232) :
    Calls Tryz.prog 5 #[.int .i64 a, .slice A0 os.length c0, .slice A2 ks.length c2, .int .i64 b] w fun e w' => e = .returned (.bool true) ∧ Fr Nob w w' := by
  have qO := len_ops5
  obtain ⟨ka, hka, hka8⟩ := andK a 3 2 (by decide) (by decide) (by decide)
  obtain ⟨kf, hkf, hkf8⟩ := andK b 511 9 (by decide) (by decide) (by decide)
  have ea : IntKind.i64.wrap ((ka : Int) + 1) = (ka : Int) + 1 := by rw [IntKind.wrap_i64]; omega
  have ef : IntKind.i64.wrap ((kf : Int) + 1) = (kf : Int) + 1 := by rw [IntKind.wrap_i64]; omega
  have HR := Lib.hid hr
  have HK := Lib.hid hk
  have HRe := Lib.hid hreach
  have HAw : Hid (∀ W, Calls Tryz.prog 11 #[] W fun e w' => e = .returned (.bool true) ∧ Fr Nob W w') := fun W => awake5_any W
  have HDt : Hid (∀ (n : Nat) (W : World), n < 2 ^ 8 → Calls Tryz.prog 13 #[.int .i64 n] W fun e w' => e = .returned (.slice (some ⟨W.heap.size, 0, none⟩) 480 480) ∧ Blk w' W.heap.size 5 (bts (dataB n)).toArray ∧ Fr Nob W w') := fun n W hn => Data_any n W (by omega)
  have HMd := Lib.hid (made5_cw ((ka : Int) + 1) w (by omega) (by omega))
  obtain ⟨n, hn⟩ : ∃ n, os.length = n := ⟨_, rfl⟩
  have HN := Lib.hid hn
  obtain ⟨m, hm⟩ : ∃ m, ks.length = m := ⟨_, rfl⟩
  have HMm := Lib.hid hm
  rw [hn, hm]
  clear hr hk hreach hn hm
  go_enter Tryz.func5, Tryz.ntmps5
  go_wp2_with fail
  refine HMd.out.mono ?_
  rintro e w1 ⟨g, d, f, l, p, U1, rfl, hp1⟩
  have HP1 := Lib.hid hp1
  have HFu := Lib.hid (hp1.fuse ((kf : Int) + 1) (by omega) (by omega))
  have c0' := hp1.wld.cd
  have gz := hp1.lt
  clear hp1 HMd hka ea
  go_wp2_with fail
  refine HFu.out.mono ?_
  rintro e w2 ⟨rfl, hp2⟩
  have HP2 := Lib.hid hp2
  clear hp2 HFu HP1 c0' gz hkf ef
  go_upto_block 0 with fail
  go_cut [10] (fun _ wx => Hid (CL w wx g d))
  case first =>
    go_wp2_with fail
    go_loopw [10, 11, 12, 13] (fun s10 _ _ _ wr => ∃ (i : Nat) (U : Nat → Prop), i ≤ n ∧ i ≤ 40 ∧ s10 = .int .i64 i ∧ Hid (CW w wr U g d f l p ((ka : Int) + 1) i (10 * i))) (fun s10 _ _ _ _ => n - (intOf s10).toNat)
    case atStart => exact ⟨0, U1, by omega, by omega, rfl, HP2.out⟩
    case round =>
      obtain ⟨i, U, hi, hi40, rfl, hw⟩ := hrel
      have HWi := Lib.hid hw.out
      clear hw HP2
      by_cases hc : i < n ∧ i < 40
      · obtain ⟨hlt, hlt40⟩ := hc
        have hltI : (i : Int) < (n : Int) := by omega
        have hlt40I : (i : Int) < 40 := by omega
        obtain ⟨⟨kd, no, nn⟩, hx⟩ : ∃ x, os[i]? = some x := ⟨_, List.getElem?_eq_getElem (by rw [HN.out]; exact hlt)⟩
        obtain ⟨go, oo, rfl, hcs⟩ := (HR.out.new HWi.out.fr) (by rw [HN.out]; omega)
        obtain ⟨k0, k1, k2⟩ := hcs i _ hx
        dsimp only at k0 k1 k2
        have hgl : go < wr.heap.size := cell_lt k0
        obtain ⟨q, hq, hq8⟩ := andK no 7 3 (by decide) (by decide) (by decide)
        obtain ⟨cc, hcc, hcc8⟩ := andK nn 255 8 (by decide) (by decide) (by decide)
        have HQ := Lib.hid hq
        have HC := Lib.hid hcc
        have gl := HWi.out.wld.cl
        have gz := HWi.out.lt
        have eu8 : IntKind.u8.wrap (i : Int) = (i : Int) := by rw [IntKind.wrap_u8]; omega
        clear hcs hx hq hcc
        go_wp2_with fail
        obtain ⟨z, hz⟩ : ∃ z, wr.heap.size = z := ⟨_, rfl⟩
        have hfb : Fr Nob wr (wr.alloc (.cells #[.int .i64 kd, .int .i64 no, .int .i64 nn] 48)) := (Fr.refl _ wr).alloc _
        have hb1 : Blk (wr.alloc (.cells #[.int .i64 kd, .int .i64 no, .int .i64 nn] 48)) z 48 #[.int .i64 kd, .int .i64 no, .int .i64 nn] := by rw [← hz]; exact Blk.new wr _ _
        have hUz : ¬ U z := fun e => by have := HWi.out.lo z e; omega
        have hwbz : (wr.alloc (.cells #[.int .i64 kd, .int .i64 no, .int .i64 nn] 48)).heap.size = z + 1 := by rw [World.size_alloc, hz]
        rw [hz]
        obtain ⟨wb, hwb⟩ : ∃ W, wr.alloc (.cells #[.int .i64 kd, .int .i64 no, .int .i64 nn] 48) = W := ⟨_, rfl⟩
        rw [hwb] at hfb hb1 hwbz ⊢
        have hwn := HWi.out.new hfb
        have hb5 : Blk (wb.alloc (.cells #[.int .u8 i] 5)) wb.heap.size 5 #[.int .u8 i] := Blk.new _ _ _
        have e5 : (#[.int .u8 i] : Array Value) = (bts [UInt8.ofNat i]).toArray := by
          have h5 : (UInt8.ofNat i).toNat = i := by rw [UInt8.toNat_ofNat']; omega
          simp [bts, h5]
        have hfc : Fr Nob wb (wb.alloc (.cells #[.int .u8 i] 5)) := (Fr.refl _ wb).alloc _
        have hbi : BytesIn (wb.alloc (.cells #[.int .u8 i] 5)) (some ⟨wb.heap.size, 0, none⟩) [UInt8.ofNat i] := bytesIn_of (Eq.mp (congrArg (fun z => Blk (wb.alloc (.cells #[.int .u8 i] 5)) wb.heap.size 5 z) e5) hb5)
        have hap := (hwn.new hfc).append ⟨wb.heap.size, 0, none⟩ 1 (UInt8.ofNat i) hbi (by simp) (by omega)
        rw [hwbz] at hap
        have HAp := Lib.hid hap
        have HB1 := Lib.hid (hb1.fr hfc (fun h => h))
        have HUz := Lib.hid hUz
        have hzc : z < (wb.alloc (.cells #[.int .u8 i] 5)).heap.size := (hb1.fr hfc (fun h => h)).lt
        clear hb5 e5 hfc hbi hap hwb hwbz hfb hb1 hUz hwn hz k0 k1 k2 gl gz eu8
        refine HAp.out.mono ?_
        rintro e w4 ⟨rfl, ⟨U4, hw4, hs4⟩, hf4⟩
        have hq1 := HB1.out.fr hf4 HUz.out
        have hU4z : ¬ U4 z := fun e => by
          rcases hs4 z e with e | e
          · exact HUz.out e
          · omega
        have b0 := hq1.cell 0
        have b1 := hq1.cell 1
        have b2 := hq1.cell 2
        have bz := hq1.lt
        simp only [List.getElem?_toArray, List.getElem?_cons_zero, List.getElem?_cons_succ] at b0 b1 b2
        have gp := hw4.wld.cp
        have gz := hw4.lt
        have HW4 := Lib.hid hw4
        have HUz4 := Lib.hid hU4z
        have HQ1 := Lib.hid hq1
        clear HAp hw4 hs4 hf4 hq1 hU4z hzc HWi HUz HB1 hgl b0
        go_wp2
        have hS : Fr Nob w4 w4.drew := (Fr.refl _ w4).drew
        refine Rg.begin (Fr Nob w4) [13, 14] (by kernel_rfl) ?_
        refine Rg.op 0 (some 62) hS (v := ?v0p) (hy := fun wz hwz => ?h0p) (h := ?_)
        case h0p => (go_simp; try with_reducible rfl)
        refine Rg.op 1 (some 63) hS (v := ?v1p) (hy := fun wz hwz => ?h1p) (h := ?_)
        case h1p => (have hpp := Nat.lt_of_lt_of_le gz hwz.size; go_simp; try with_reducible rfl)
        refine Rg.op 2 (some 64) hS (v := ?v2p) (hy := fun wz hwz => ?h2p) (h := ?_)
        case h2p => (have hpp := Nat.lt_of_lt_of_le gz hwz.size; go_simp; try with_reducible rfl)
        refine Rg.op 3 (some 65) hS (v := (.pointer (some ⟨p, 0, none⟩))) (hy := fun wz hwz => ?h3p) (h := ?_)
        case h3p => (have cx := (hwz.cell (p := ⟨g, 3, none⟩) gz (fun h => h)).trans gp; have hpp := Nat.lt_of_lt_of_le gz hwz.size; go_simp; try with_reducible rfl)
        refine Rg.op 4 (some 66) hS (v := ?v4p) (hy := fun wz hwz => ?h4p) (h := ?_)
        case h4p => (have hpp := Nat.lt_of_lt_of_le bz hwz.size; go_simp; try with_reducible rfl)
        refine Rg.op 5 (some 67) hS (v := (.int .i64 no)) (hy := fun wz hwz => ?h5p) (h := ?_)
        case h5p => (have cx := (hwz.cell (p := ⟨z, 1, none⟩) bz (fun h => h)).trans b1; have hpp := Nat.lt_of_lt_of_le bz hwz.size; go_simp; try with_reducible rfl)
        refine Rg.op 6 (some 68) hS (v := (.int .i64 q)) (hy := fun wz hwz => ?h6p) (h := ?_)
        case h6p => (have hh := HQ.out; go_simp; try with_reducible rfl)
        refine Rg.op 7 (some 69) hS (v := ?v7p) (hy := fun wz hwz => ?h7p) (h := ?_)
        case h7p => (go_simp; try with_reducible rfl)
        refine Rg.op 8 (some 70) hS (v := ?v8p) (hy := fun wz hwz => ?h8p) (h := ?_)
        case h8p => (have hpp := Nat.lt_of_lt_of_le bz hwz.size; go_simp; try with_reducible rfl)
        refine Rg.op 9 (some 71) hS (v := (.int .i64 nn)) (hy := fun wz hwz => ?h9p) (h := ?_)
        case h9p => (have cx := (hwz.cell (p := ⟨z, 2, none⟩) bz (fun h => h)).trans b2; have hpp := Nat.lt_of_lt_of_le bz hwz.size; go_simp; try with_reducible rfl)
        refine Rg.op 10 (some 72) hS (v := (.int .i64 cc)) (hy := fun wz hwz => ?h10p) (h := ?_)
        case h10p => (have hh := HC.out; go_simp; try with_reducible rfl)
        refine Rg.call 11 (some 73) (hrun := ?h11p) (hcall := HDt.out cc _ hcc8) (h := ?_)
        case h11p => (go_simp)
        rintro e wd ⟨rfl, hbd, hfd⟩
        have hSd : Fr Nob w4 wd := hS.trans hfd
        clear hfd
        obtain ⟨gd, hgd⟩ : ∃ s, w4.drew.heap.size = s := ⟨_, rfl⟩
        rw [hgd] at hbd ⊢
        have hgl4 : w4.heap.size ≤ gd := by rw [← hgd]; simp
        have HBd := Lib.hid hbd
        clear hgd hbd
        refine ⟨_, ?a11p, rfl, ?b11p, (fun _ => hSd), ?_⟩
        case b11p => (simp only [Act.put, List.setIfInBounds_toArray, List.set_cons_zero, List.set_cons_succ]; rfl)
        refine Rg.op 12 (some 74) hSd (v := ?v12p) (hy := fun wz hwz => ?h12p) (h := ?_)
        case h12p => (go_simp; try with_reducible rfl)
        have hput := (HW4.out.new hSd).put ⟨q, i + 1, dataB cc⟩ gd 0 480 ⟨bytesIn_of HBd.out, by show (dataB cc).length ≤ 480; rw [dataB_length]; exact Nat.le_refl _, fun a ha => by injection ha with ha; subst ha; exact HBd.out.lt⟩ ⟨by show q < 100000; omega, by show i + 1 < 18446744073709551616; omega, dataB_length cc⟩ (by show q < 8; omega) (Nat.le_refl _) ⟨cc, rfl⟩ (fun e => by have := HW4.out.lo _ e; omega) (by omega)
        have HPut := Lib.hid hput
        have HSd := Lib.hid hSd
        clear hput
        refine Rg.call 13 (some 75) (hrun := ?h13p) (hcall := HPut.out) (h := ?_)
        case h13p => (go_simp)
        rintro e w5 ⟨cb, rfl, hn5⟩
        have HN5 := Lib.hid hn5
        clear hn5
        obtain ⟨cd, hcd⟩ : ∃ cd, ecode cb = cd := ⟨_, rfl⟩
        have hef := ecode_facts cb
        rw [hcd] at hef ⊢
        have HEc := Lib.hid hef
        clear hef hcd
        refine ⟨_, ?a13p, rfl, ?b13p, (fun h => absurd (by decide) h), ?_⟩
        case b13p => (simp only [Act.put, List.setIfInBounds_toArray, List.set_cons_zero, List.set_cons_succ]; rfl)
        refine Rg.late 14 (some 76) (v := (.bool cb)) (hrun := ?h14p) (h := ?_)
        case h14p => (obtain ⟨e1, e2, e3, e4⟩ := HEc.out; go_simp; try with_reducible rfl)
        refine Rg.done _ (h := ?_)
        have hf45 := HSd.out
        have hn5 := HN5.out
        have hq1 := (HQ1.out.fr HSd.out (fun h => h)).fr hn5.1 HUz4.out
        cases cb
        rotate_left
        · have HCl := Lib.hid (hn5.2.2 rfl)
          clear hq1 hn5 HN5 HPut hf45
          go_wp2_with fail
          go_meet
          case rel => exact HCl
        obtain ⟨U5, hw5, hs5⟩ := hn5.2.1 rfl
        have hU5z : ¬ U5 z := fun e => by
          rcases hs5 z e with e | e
          · exact HUz4.out e
          · have := hf45.size; omega
        have b0 := hq1.cell 0
        have b1 := hq1.cell 1
        have bz := hq1.lt
        simp only [List.getElem?_toArray, List.getElem?_cons_zero, List.getElem?_cons_succ] at b0 b1
        have gp := hw5.wld.cp
        have gz := hw5.lt
        have HW5 := Lib.hid hw5
        have HUz5 := Lib.hid hU5z
        have HQ5 := Lib.hid hq1
        clear HPut HN5 hn5 hf45 hq1 hw5 hs5 hU5z HW4 HUz4 HQ1 hS HSd
        by_cases hk2 : kd = 2
        · subst hk2
          go_upto_region 12 with fail
          have hS : w5.drew.cell? ⟨g, 3, none⟩ = some (.pointer (some ⟨p, 0, none⟩)) ∧ w5.drew.cell? ⟨z, 0, none⟩ = some (.int .i64 2) ∧ w5.drew.cell? ⟨z, 1, none⟩ = some (.int .i64 no) ∧ g < w5.drew.heap.size ∧ z < w5.drew.heap.size := ⟨gp, b0, b1, gz, bz⟩
          refine Rg.begin (fun u => u.cell? ⟨g, 3, none⟩ = some (.pointer (some ⟨p, 0, none⟩)) ∧ u.cell? ⟨z, 0, none⟩ = some (.int .i64 2) ∧ u.cell? ⟨z, 1, none⟩ = some (.int .i64 no) ∧ g < u.heap.size ∧ z < u.heap.size) [] (by kernel_rfl) ?_
          refine Rg.op 0 (some 77) hS (v := ?v0e) (hy := fun wz hwz => ?h0e) (h := ?_)
          case h0e => (obtain ⟨hx1, hx2, hx3, hx4, hx5⟩ := hwz; go_simp; try with_reducible rfl)
          refine Rg.op 1 (some 78) hS (v := (.int .i64 2)) (hy := fun wz hwz => ?h1e) (h := ?_)
          case h1e => (obtain ⟨hx1, hx2, hx3, hx4, hx5⟩ := hwz; go_simp; try with_reducible rfl)
          refine Rg.op 2 (some 79) hS (v := (.bool true)) (hy := fun wz hwz => ?h2e) (h := ?_)
          case h2e => (go_simp; try with_reducible rfl)
          refine Rg.op 3 (some 80) hS (v := ?v3e) (hy := fun wz hwz => ?h3e) (h := ?_)
          case h3e => (go_simp; try with_reducible rfl)
          refine Rg.op 4 (some 81) hS (v := ?v4e) (hy := fun wz hwz => ?h4e) (h := ?_)
          case h4e => (obtain ⟨hx1, hx2, hx3, hx4, hx5⟩ := hwz; go_simp; try with_reducible rfl)
          refine Rg.op 5 (some 82) hS (v := ?v5e) (hy := fun wz hwz => ?h5e) (h := ?_)
          case h5e => (obtain ⟨hx1, hx2, hx3, hx4, hx5⟩ := hwz; go_simp; try with_reducible rfl)
          refine Rg.op 6 (some 83) hS (v := ?v6e) (hy := fun wz hwz => ?h6e) (h := ?_)
          case h6e => (obtain ⟨hx1, hx2, hx3, hx4, hx5⟩ := hwz; go_simp; try with_reducible rfl)
          refine Rg.op 7 (some 84) hS (v := (.pointer (some ⟨p, 0, none⟩))) (hy := fun wz hwz => ?h7e) (h := ?_)
          case h7e => (obtain ⟨hx1, hx2, hx3, hx4, hx5⟩ := hwz; go_simp; try with_reducible rfl)
          refine Rg.op 8 (some 85) hS (v := ?v8e) (hy := fun wz hwz => ?h8e) (h := ?_)
          case h8e => (obtain ⟨hx1, hx2, hx3, hx4, hx5⟩ := hwz; go_simp; try with_reducible rfl)
          refine Rg.op 9 (some 86) hS (v := (.int .i64 no)) (hy := fun wz hwz => ?h9e) (h := ?_)
          case h9e => (obtain ⟨hx1, hx2, hx3, hx4, hx5⟩ := hwz; go_simp; try with_reducible rfl)
          refine Rg.op 10 (some 87) hS (v := (.int .i64 q)) (hy := fun wz hwz => ?h10e) (h := ?_)
          case h10e => (have hh := HQ.out; go_simp; try with_reducible rfl)
          have hev := (HW5.out.new (Fr.refl Nob w5).drew).evict q (by omega) (by omega)
          have HEv := Lib.hid hev
          clear hev
          refine Rg.call 11 (some 88) (hrun := ?h11e) (hcall := HEv.out) (h := ?_)
          case h11e => (go_simp)
          rintro e w6 ⟨cb, rfl, hn6⟩
          have hS6 : w6.cell? ⟨g, 3, none⟩ = some (.pointer (some ⟨p, 0, none⟩)) ∧ w6.cell? ⟨z, 0, none⟩ = some (.int .i64 2) ∧ w6.cell? ⟨z, 1, none⟩ = some (.int .i64 no) ∧ g < w6.heap.size ∧ z < w6.heap.size := ⟨(hn6.1.cell (p := ⟨g, 3, none⟩) hS.2.2.2.1 HW5.out.ng).trans hS.1, (hn6.1.cell (p := ⟨z, 0, none⟩) hS.2.2.2.2 HUz5.out).trans hS.2.1, (hn6.1.cell (p := ⟨z, 1, none⟩) hS.2.2.2.2 HUz5.out).trans hS.2.2.1, Nat.lt_of_lt_of_le hS.2.2.2.1 hn6.1.size, Nat.lt_of_lt_of_le hS.2.2.2.2 hn6.1.size⟩
          have HN6 := Lib.hid hn6
          clear hn6
          obtain ⟨cd, hcd⟩ : ∃ cd, ecode cb = cd := ⟨_, rfl⟩
          have hef := ecode_facts cb
          rw [hcd] at hef ⊢
          have HEc := Lib.hid hef
          clear hef hcd
          refine ⟨_, ?a11e, rfl, ?b11e, (fun _ => hS6), ?_⟩
          case b11e => (simp only [Act.put, List.setIfInBounds_toArray, List.set_cons_zero, List.set_cons_succ]; rfl)
          refine Rg.op 12 (some 89) hS6 (v := (.bool cb)) (hy := fun wz hwz => ?h12e) (h := ?_)
          case h12e => (obtain ⟨e1, e2, e3, e4⟩ := HEc.out; go_simp; try with_reducible rfl)
          refine Rg.op 13 (some 90) hS6 (v := (.bool cb)) (hy := fun wz hwz => ?h13e) (h := ?_)
          case h13e => (obtain ⟨e1, e2, e3, e4⟩ := HEc.out; go_simp; try with_reducible rfl)
          refine Rg.op 14 (some 91) hS6 (v := ?v14e) (hy := fun wz hwz => ?h14e) (h := ?_)
          case h14e => (go_simp; try with_reducible rfl)
          cases cb
          · refine Rg.op 15 (some 92) hS6 (v := ?v15f) (a' := ?a15f) (hy := fun wz hwz => ?h15f) (ha := ?b15f) (h := ?_)
            case h15f => (obtain ⟨hx1, hx2, hx3, hx4, hx5⟩ := hwz; go_simp; try with_reducible rfl)
            case b15f => (simp only [Act.put, List.setIfInBounds_toArray, List.set_cons_zero, List.set_cons_succ]; rfl)
            refine Rg.op 16 (some 93) hS6 (v := (.int .i64 2)) (hy := fun wz hwz => ?h16f) (h := ?_)
            case h16f => (obtain ⟨hx1, hx2, hx3, hx4, hx5⟩ := hwz; go_simp; try with_reducible rfl)
            refine Rg.op 17 (some 94) hS6 (v := (.bool false)) (hy := fun wz hwz => ?h17f) (h := ?_)
            case h17f => (go_simp; try with_reducible rfl)
            refine Rg.op 18 (some 95) hS6 (v := ?v18f) (hy := fun wz hwz => ?h18f) (h := ?_)
            case h18f => (go_simp; try with_reducible rfl)
            refine Rg.pass 19 (some 96) hS6 (h := ?_)
            refine Rg.pass 20 (some 97) hS6 (h := ?_)
            refine Rg.pass 21 (some 98) hS6 (h := ?_)
            refine Rg.pass 22 (some 99) hS6 (h := ?_)
            refine Rg.pass 23 (some 100) hS6 (h := ?_)
            refine Rg.pass 24 (some 101) hS6 (h := ?_)
            refine Rg.op 25 (some 102) hS6 (v := ?v25f) (hy := fun wz hwz => ?h25f) (h := ?_)
            case h25f => (go_simp; try with_reducible rfl)
            refine Rg.op 26 (some 103) hS6 (v := ?v26f) (hy := fun wz hwz => ?h26f) (h := ?_)
            case h26f => (go_simp; try with_reducible rfl)
            refine Rg.done _ (h := ?_)
            obtain ⟨U6, hw6, _⟩ := HN6.out.2.1 rfl
            have hrel := hw6.more (K := 10 * (i + 1)) (by omega) (by omega)
            have HRel := Lib.hid hrel
            clear hrel hw6
            go_wp2_with fail
            go_roundw
            case rel => exact ⟨i + 1, _, by omega, by omega, by go_num, HRel⟩
            case measure => simp [intOf]; omega
          · refine Rg.pass 15 (some 92) hS6 (a' := ?a15g) (ha := ?b15g) (h := ?_)
            case b15g => (simp only [Act.put, List.setIfInBounds_toArray, List.set_cons_zero, List.set_cons_succ]; rfl)
            refine Rg.pass 16 (some 93) hS6 (h := ?_)
            refine Rg.pass 17 (some 94) hS6 (h := ?_)
            refine Rg.pass 18 (some 95) hS6 (h := ?_)
            refine Rg.pass 19 (some 96) hS6 (h := ?_)
            refine Rg.pass 20 (some 97) hS6 (h := ?_)
            refine Rg.pass 21 (some 98) hS6 (h := ?_)
            refine Rg.pass 22 (some 99) hS6 (h := ?_)
            refine Rg.pass 23 (some 100) hS6 (h := ?_)
            refine Rg.pass 24 (some 101) hS6 (h := ?_)
            refine Rg.pass 25 (some 102) hS6 (h := ?_)
            refine Rg.op 26 (some 103) hS6 (v := ?v26g) (hy := fun wz hwz => ?h26g) (h := ?_)
            case h26g => (go_simp; try with_reducible rfl)
            refine Rg.done _ (h := ?_)
            have HCl := Lib.hid (HN6.out.2.2 rfl)
            go_wp2_with fail
            go_meet
            case rel => exact HCl
        · have ek2 : (kd == 2) = false := by simpa using hk2
          have ed2 : decide (kd = 2) = false := decide_eq_false hk2
          by_cases hk3 : kd = 3
          · subst hk3
            go_upto_region 12 with fail
            have hS : w5.drew.cell? ⟨g, 3, none⟩ = some (.pointer (some ⟨p, 0, none⟩)) ∧ w5.drew.cell? ⟨z, 0, none⟩ = some (.int .i64 3) ∧ w5.drew.cell? ⟨z, 1, none⟩ = some (.int .i64 no) ∧ g < w5.drew.heap.size ∧ z < w5.drew.heap.size := ⟨gp, b0, b1, gz, bz⟩
            refine Rg.begin (fun u => u.cell? ⟨g, 3, none⟩ = some (.pointer (some ⟨p, 0, none⟩)) ∧ u.cell? ⟨z, 0, none⟩ = some (.int .i64 3) ∧ u.cell? ⟨z, 1, none⟩ = some (.int .i64 no) ∧ g < u.heap.size ∧ z < u.heap.size) [] (by kernel_rfl) ?_
            refine Rg.op 0 (some 77) hS (v := ?v0h) (hy := fun wz hwz => ?h0h) (h := ?_)
            case h0h => (obtain ⟨hx1, hx2, hx3, hx4, hx5⟩ := hwz; go_simp; try with_reducible rfl)
            refine Rg.op 1 (some 78) hS (v := (.int .i64 3)) (hy := fun wz hwz => ?h1h) (h := ?_)
            case h1h => (obtain ⟨hx1, hx2, hx3, hx4, hx5⟩ := hwz; go_simp; try with_reducible rfl)
            refine Rg.op 2 (some 79) hS (v := (.bool false)) (hy := fun wz hwz => ?h2h) (h := ?_)
            case h2h => (go_simp; try with_reducible rfl)
            refine Rg.op 3 (some 80) hS (v := ?v3h) (hy := fun wz hwz => ?h3h) (h := ?_)
            case h3h => (go_simp; try with_reducible rfl)
            refine Rg.pass 4 (some 81) hS (h := ?_)
            refine Rg.pass 5 (some 82) hS (h := ?_)
            refine Rg.pass 6 (some 83) hS (h := ?_)
            refine Rg.pass 7 (some 84) hS (h := ?_)
            refine Rg.pass 8 (some 85) hS (h := ?_)
            refine Rg.pass 9 (some 86) hS (h := ?_)
            refine Rg.pass 10 (some 87) hS (h := ?_)
            refine Rg.pass 11 (some 88) hS (h := ?_)
            refine Rg.pass 12 (some 89) hS (h := ?_)
            refine Rg.op 13 (some 90) hS (v := ?v13h) (hy := fun wz hwz => ?h13h) (h := ?_)
            case h13h => (go_simp; try with_reducible rfl)
            refine Rg.op 14 (some 91) hS (v := ?v14h) (hy := fun wz hwz => ?h14h) (h := ?_)
            case h14h => (go_simp; try with_reducible rfl)
            refine Rg.op 15 (some 92) hS (v := ?v15h) (hy := fun wz hwz => ?h15h) (h := ?_)
            case h15h => (obtain ⟨hx1, hx2, hx3, hx4, hx5⟩ := hwz; go_simp; try with_reducible rfl)
            refine Rg.op 16 (some 93) hS (v := (.int .i64 3)) (hy := fun wz hwz => ?h16h) (h := ?_)
            case h16h => (obtain ⟨hx1, hx2, hx3, hx4, hx5⟩ := hwz; go_simp; try with_reducible rfl)
            refine Rg.op 17 (some 94) hS (v := (.bool true)) (hy := fun wz hwz => ?h17h) (h := ?_)
            case h17h => (go_simp; try with_reducible rfl)
            refine Rg.op 18 (some 95) hS (v := ?v18h) (hy := fun wz hwz => ?h18h) (h := ?_)
            case h18h => (go_simp; try with_reducible rfl)
            refine Rg.op 19 (some 96) hS (v := ?v19h) (hy := fun wz hwz => ?h19h) (h := ?_)
            case h19h => (obtain ⟨hx1, hx2, hx3, hx4, hx5⟩ := hwz; go_simp; try with_reducible rfl)
            refine Rg.op 20 (some 97) hS (v := ?v20h) (hy := fun wz hwz => ?h20h) (h := ?_)
            case h20h => (obtain ⟨hx1, hx2, hx3, hx4, hx5⟩ := hwz; go_simp; try with_reducible rfl)
            refine Rg.op 21 (some 98) hS (v := ?v21h) (hy := fun wz hwz => ?h21h) (h := ?_)
            case h21h => (obtain ⟨hx1, hx2, hx3, hx4, hx5⟩ := hwz; go_simp; try with_reducible rfl)
            refine Rg.op 22 (some 99) hS (v := (.pointer (some ⟨p, 0, none⟩))) (hy := fun wz hwz => ?h22h) (h := ?_)
            case h22h => (obtain ⟨hx1, hx2, hx3, hx4, hx5⟩ := hwz; go_simp; try with_reducible rfl)
            have hev := (HW5.out.new (Fr.refl Nob w5).drew).flush (by omega)
            have HEv := Lib.hid hev
            clear hev
            refine Rg.call 23 (some 100) (hrun := ?h23h) (hcall := HEv.out) (h := ?_)
            case h23h => (go_simp)
            rintro e w6 ⟨cb, rfl, hn6⟩
            have hS6 : w6.cell? ⟨g, 3, none⟩ = some (.pointer (some ⟨p, 0, none⟩)) ∧ w6.cell? ⟨z, 0, none⟩ = some (.int .i64 3) ∧ w6.cell? ⟨z, 1, none⟩ = some (.int .i64 no) ∧ g < w6.heap.size ∧ z < w6.heap.size := ⟨(hn6.1.cell (p := ⟨g, 3, none⟩) hS.2.2.2.1 HW5.out.ng).trans hS.1, (hn6.1.cell (p := ⟨z, 0, none⟩) hS.2.2.2.2 HUz5.out).trans hS.2.1, (hn6.1.cell (p := ⟨z, 1, none⟩) hS.2.2.2.2 HUz5.out).trans hS.2.2.1, Nat.lt_of_lt_of_le hS.2.2.2.1 hn6.1.size, Nat.lt_of_lt_of_le hS.2.2.2.2 hn6.1.size⟩
            have HN6 := Lib.hid hn6
            clear hn6
            obtain ⟨cd, hcd⟩ : ∃ cd, ecode cb = cd := ⟨_, rfl⟩
            have hef := ecode_facts cb
            rw [hcd] at hef ⊢
            have HEc := Lib.hid hef
            clear hef hcd
            refine ⟨_, ?a23h, rfl, ?b23h, (fun _ => hS6), ?_⟩
            case b23h => (simp only [Act.put, List.setIfInBounds_toArray, List.set_cons_zero, List.set_cons_succ]; rfl)
            refine Rg.op 24 (some 101) hS6 (v := (.bool cb)) (hy := fun wz hwz => ?h24h) (h := ?_)
            case h24h => (obtain ⟨e1, e2, e3, e4⟩ := HEc.out; go_simp; try with_reducible rfl)
            refine Rg.op 25 (some 102) hS6 (v := (.bool cb)) (hy := fun wz hwz => ?h25h) (h := ?_)
            case h25h => (go_simp; try with_reducible rfl)
            refine Rg.op 26 (some 103) hS6 (v := (.bool cb)) (hy := fun wz hwz => ?h26h) (h := ?_)
            case h26h => (go_simp; try with_reducible rfl)
            refine Rg.done _ (h := ?_)
            cases cb
            · obtain ⟨U6, hw6, _⟩ := HN6.out.2.1 rfl
              have hrel := hw6.more (K := 10 * (i + 1)) (by omega) (by omega)
              have HRel := Lib.hid hrel
              clear hrel hw6
              go_wp2_with fail
              go_roundw
              case rel => exact ⟨i + 1, _, by omega, by omega, by go_num, HRel⟩
              case measure => simp [intOf]; omega
            · have HCl := Lib.hid (HN6.out.2.2 rfl)
              go_wp2_with fail
              go_meet
              case rel => exact HCl
          · have ek3 : (kd == 3) = false := by simpa using hk3
            have ed3 : decide (kd = 3) = false := decide_eq_false hk3
            go_upto_region 12 with fail
            have hS : w5.drew.cell? ⟨g, 3, none⟩ = some (.pointer (some ⟨p, 0, none⟩)) ∧ w5.drew.cell? ⟨z, 0, none⟩ = some (.int .i64 kd) ∧ w5.drew.cell? ⟨z, 1, none⟩ = some (.int .i64 no) ∧ g < w5.drew.heap.size ∧ z < w5.drew.heap.size := ⟨gp, b0, b1, gz, bz⟩
            refine Rg.begin (fun u => u.cell? ⟨g, 3, none⟩ = some (.pointer (some ⟨p, 0, none⟩)) ∧ u.cell? ⟨z, 0, none⟩ = some (.int .i64 kd) ∧ u.cell? ⟨z, 1, none⟩ = some (.int .i64 no) ∧ g < u.heap.size ∧ z < u.heap.size) [] (by kernel_rfl) ?_
            refine Rg.op 0 (some 77) hS (v := ?v0k) (hy := fun wz hwz => ?h0k) (h := ?_)
            case h0k => (obtain ⟨hx1, hx2, hx3, hx4, hx5⟩ := hwz; go_simp; try with_reducible rfl)
            refine Rg.op 1 (some 78) hS (v := (.int .i64 kd)) (hy := fun wz hwz => ?h1k) (h := ?_)
            case h1k => (obtain ⟨hx1, hx2, hx3, hx4, hx5⟩ := hwz; go_simp; try with_reducible rfl)
            refine Rg.op 2 (some 79) hS (v := (.bool false)) (hy := fun wz hwz => ?h2k) (h := ?_)
            case h2k => (go_simp; try with_reducible rfl)
            refine Rg.op 3 (some 80) hS (v := ?v3k) (hy := fun wz hwz => ?h3k) (h := ?_)
            case h3k => (go_simp; try with_reducible rfl)
            refine Rg.pass 4 (some 81) hS (h := ?_)
            refine Rg.pass 5 (some 82) hS (h := ?_)
            refine Rg.pass 6 (some 83) hS (h := ?_)
            refine Rg.pass 7 (some 84) hS (h := ?_)
            refine Rg.pass 8 (some 85) hS (h := ?_)
            refine Rg.pass 9 (some 86) hS (h := ?_)
            refine Rg.pass 10 (some 87) hS (h := ?_)
            refine Rg.pass 11 (some 88) hS (h := ?_)
            refine Rg.pass 12 (some 89) hS (h := ?_)
            refine Rg.op 13 (some 90) hS (v := ?v13k) (hy := fun wz hwz => ?h13k) (h := ?_)
            case h13k => (go_simp; try with_reducible rfl)
            refine Rg.op 14 (some 91) hS (v := ?v14k) (hy := fun wz hwz => ?h14k) (h := ?_)
            case h14k => (go_simp; try with_reducible rfl)
            refine Rg.op 15 (some 92) hS (v := ?v15k) (hy := fun wz hwz => ?h15k) (h := ?_)
            case h15k => (obtain ⟨hx1, hx2, hx3, hx4, hx5⟩ := hwz; go_simp; try with_reducible rfl)
            refine Rg.op 16 (some 93) hS (v := (.int .i64 kd)) (hy := fun wz hwz => ?h16k) (h := ?_)
            case h16k => (obtain ⟨hx1, hx2, hx3, hx4, hx5⟩ := hwz; go_simp; try with_reducible rfl)
            refine Rg.op 17 (some 94) hS (v := (.bool false)) (hy := fun wz hwz => ?h17k) (h := ?_)
            case h17k => (go_simp; try with_reducible rfl)
            refine Rg.op 18 (some 95) hS (v := ?v18k) (hy := fun wz hwz => ?h18k) (h := ?_)
            case h18k => (go_simp; try with_reducible rfl)
            refine Rg.pass 19 (some 96) hS (h := ?_)
            refine Rg.pass 20 (some 97) hS (h := ?_)
            refine Rg.pass 21 (some 98) hS (h := ?_)
            refine Rg.pass 22 (some 99) hS (h := ?_)
            refine Rg.pass 23 (some 100) hS (h := ?_)
            refine Rg.pass 24 (some 101) hS (h := ?_)
            refine Rg.op 25 (some 102) hS (v := ?v25k) (hy := fun wz hwz => ?h25k) (h := ?_)
            case h25k => (go_simp; try with_reducible rfl)
            refine Rg.op 26 (some 103) hS (v := ?v26k) (hy := fun wz hwz => ?h26k) (h := ?_)
            case h26k => (go_simp; try with_reducible rfl)
            refine Rg.done _ (h := ?_)
            have hrel := (HW5.out.new (Fr.refl Nob w5).drew).more (K := 10 * (i + 1)) (by omega) (by omega)
            have HRel := Lib.hid hrel
            clear hrel
            go_wp2_with fail
            go_roundw
            case rel => exact ⟨i + 1, _, by omega, by omega, by go_num, HRel⟩
            case measure => simp [intOf]; omega
      · have HCl := Lib.hid HWi.out.rest
        rcases (by omega : ¬ i < n ∨ (i < n ∧ ¬ i < 40)) with h | ⟨h, h2⟩
        · have hltI : ¬ (i : Int) < (n : Int) := by omega
          clear hc HWi
          go_wp2_with fail
          go_meet
          case rel => exact HCl
        · have hltI : (i : Int) < (n : Int) := by omega
          have hlt40I : ¬ (i : Int) < 40 := by omega
          clear hc HWi
          go_wp2_with fail
          go_meet
          case rel => exact HCl
  case rest =>
    obtain ⟨S, RD, hd, hsf, hRD, cd, hgg, hfr⟩ := hcut.out
    have hgz : g < wc.heap.size := cell_lt cd
    have hcr := Crash_any A2 c2 ks hd (keep_out HK.out hfr (fun b hb => (hRD b hb).1)) HRe.out hsf.waits
    rw [HMm.out] at hcr
    have HCr := Lib.hid hcr
    have HLast := Lib.hid hd.lens
    have HSf := Lib.hid hsf
    have HRD := Lib.hid hRD
    have HFr := Lib.hid hfr
    clear hcut hd hsf hRD hfr hcr HP2
    go_wp2_with fail
    refine HCr.out.mono ?_
    rintro e w3 ⟨rfl, hd3, hf3⟩
    have hst3 : Still (S.crash ks) := crash_still ks
    obtain ⟨K, hFS, hLS⟩ := HSf.out.all ks
    have hln3 : 224 ≤ (S.crash ks).now.length := by
      have e1 : (S.crash ks).now.length = S.last.length := by show (setAll S.last _).length = _; rw [setAll_length]
      have e2 := hd3.lens
      have e3 := hFS.len
      have e4 : (S.crash ks).last = (S.crash ks).now := rfl
      have := HSf.out.len
      have h5 := HLast.out
      omega
    obtain ⟨S3, hS3⟩ : ∃ S3, S.crash ks = S3 := ⟨_, rfl⟩
    rw [hS3] at hd3 hst3 hFS hLS hln3
    have HOp := Lib.hid (file_open hd3 hst3 hFS)
    have cd := (hf3.cell (p := ⟨g, 0, none⟩) hgz (fun e => (HRD.out g e).2 rfl)).trans cd
    have hgz := cell_lt cd
    have HF3 : Hid (Fr Nob w w3) := HFr.out.step hf3 (fun i hi e => by have := (HRD.out i e).1; omega)
    have HLS := Lib.hid hLS
    clear hd3 hf3 hst3 hFS hLS HCr hS3 HSf HFr
    dsimp only at hgz
    go_wp2_with fail
    refine HOp.out.mono ?_
    rintro e w4 ⟨fp, R4, S4, t4, rfl, hfp0, hfp1, hfa4, hd4, hst4, hps4, hle4, hag4, hln4, hnp4, hsub4, hf4⟩
    have hRg : ¬ RD g := fun e => (HRD.out g e).2 rfl
    have cd := (hf4.cell (p := ⟨g, 0, none⟩) hgz hRg).trans cd
    have hgz4 := cell_lt cd
    have HF4 : Hid (Fr Nob w w4) := HF3.out.step hf4 (fun i hi e => by have := (HRD.out i e).1; omega)
    have hLS4 := HLS.out.agree (S' := S4) (fun j h1 h2 => getD_of (hag4 j (by omega)))
    have HLo := Lib.hid (fun (W : World) (hW : Fr Nob w4 W) => log_open (hd4.new hW) hst4 hLS4 (by omega))
    have HNe : Hid (∀ W, Calls Tryz.prog 20 #[.int .i64 8] W fun e w' => e = .returned (.int .i64 144) ∧ W = w') := fun W => Need_any 8 W (by omega) (by omega)
    have HFa4 := Lib.hid hfa4
    have HPs4 := Lib.hid hps4
    have HLe4 := Lib.hid hle4
    have HNp4 := Lib.hid hnp4
    have HSub4 := Lib.hid hsub4
    have HLn4 := Lib.hid hln4
    have hR4 : ∀ b, R4 b → b < w4.heap.size := fun b hb => hd4.lt hb
    have HR4 := Lib.hid hR4
    dsimp only at hgz4
    clear hfa4 hps4 hle4 hnp4 hsub4 hf4 hd4 hst4 hag4 hLS4 HOp HLS hR4 hln4
    have hR4g : ¬ R4 g := fun e => by
      rcases HSub4.out g e with e | e
      · exact hRg e
      · omega
    go_wp2
    have hF0 : Fr Nob w4 w4.drew := (Fr.refl _ w4).drew
    have hS : w4.drew.cell? ⟨g, 0, none⟩ = some (.pointer (some ⟨d, 0, none⟩)) ∧ g < w4.drew.heap.size := ⟨cd, hgz4⟩
    refine Rg.begin (fun u => u.cell? ⟨g, 0, none⟩ = some (.pointer (some ⟨d, 0, none⟩)) ∧ g < u.heap.size) [] (by kernel_rfl) ?_
    refine Rg.op 0 (some 119) hS (v := ?v0q) (hy := fun wz hwz => ?h0q) (h := ?_)
    case h0q => (go_simp; try with_reducible rfl)
    refine Rg.op 1 (some 120) hS (v := ?v1q) (hy := fun wz hwz => ?h1q) (h := ?_)
    case h1q => (obtain ⟨hx1, hx2⟩ := hwz; go_simp; try with_reducible rfl)
    refine Rg.op 2 (some 121) hS (v := ?v2q) (hy := fun wz hwz => ?h2q) (h := ?_)
    case h2q => (obtain ⟨hx1, hx2⟩ := hwz; go_simp; try with_reducible rfl)
    refine Rg.op 3 (some 122) hS (v := (.pointer (some ⟨d, 0, none⟩))) (hy := fun wz hwz => ?h3q) (h := ?_)
    case h3q => (obtain ⟨hx1, hx2⟩ := hwz; go_simp; try with_reducible rfl)
    refine Rg.call 4 (some 123) (hrun := ?h4q) (hcall := HNe.out _) (h := ?_)
    case h4q => (go_simp)
    rintro e wn ⟨rfl, rfl⟩
    refine ⟨_, ?a4q, rfl, ?b4q, (fun _ => hS), ?_⟩
    case b4q => (simp only [Act.put, List.setIfInBounds_toArray, List.set_cons_zero, List.set_cons_succ]; rfl)
    refine Rg.call 5 (some 124) (hrun := ?h5q) (hcall := HLo.out _ hF0) (h := ?_)
    case h5q => (go_simp)
    rintro e w5 ⟨lp, L5, RL5, RD5, S5, rfl, hK5, hlog5, hd5, hdead5, hag5, hln5, hsub5, hrl5, hf5⟩
    have hS5 : w5.cell? ⟨g, 0, none⟩ = some (.pointer (some ⟨d, 0, none⟩)) ∧ g < w5.heap.size := ⟨(hf5.cell (p := ⟨g, 0, none⟩) hS.2 hR4g).trans hS.1, Nat.lt_of_lt_of_le hS.2 hf5.size⟩
    have HK5 := Lib.hid hK5
    have HLog5 := Lib.hid hlog5
    have HD5 := Lib.hid hd5
    have HDd5 := Lib.hid hdead5
    have HAg5 := Lib.hid hag5
    have HSub5 := Lib.hid hsub5
    have HF5 := Lib.hid hf5
    have HLn5 := Lib.hid hln5
    clear hK5 hlog5 hd5 hdead5 hag5 hsub5 hf5 hln5
    refine ⟨_, ?a5q, rfl, ?b5q, (fun _ => hS5), ?_⟩
    case b5q => (simp only [Act.put, List.setIfInBounds_toArray, List.set_cons_zero, List.set_cons_succ]; rfl)
    refine Rg.op 6 (some 118) hS5 (v := ?v6q) (hy := fun wz hwz => ?h6q) (h := ?_)
    case h6q => (go_simp; try with_reducible rfl)
    refine Rg.op 7 (some 125) hS5 (v := ?v7q) (hy := fun wz hwz => ?h7q) (h := ?_)
    case h7q => (go_simp; try with_reducible rfl)
    refine Rg.op 8 (some 126) hS5 (v := ?v8q) (hy := fun wz hwz => ?h8q) (h := ?_)
    case h8q => (go_simp; try with_reducible rfl)
    refine Rg.op 9 (some 16) hS5 (v := ?v9q) (hy := fun wz hwz => ?h9q) (h := ?_)
    case h9q => (go_simp; try with_reducible rfl)
    refine Rg.op 10 (some 17) hS5 (v := ?v10q) (hy := fun wz hwz => ?h10q) (h := ?_)
    case h10q => (go_simp; try with_reducible rfl)
    refine Rg.done _ (h := ?_)
    have hfw : Fr Nob w w5 := by
      refine HF4.out.step ((hF0.mono (fun _ _ h => h.elim) : Fr R4 w4 w4.drew).trans HF5.out) (fun i hi e => ?_)
      rcases HSub4.out i e with e | e
      · have := (HRD.out i e).1; omega
      · have := HF3.out.size; omega
    have hfa5 : FileAt w5 fp d 0 8 t4 := (HFa4.out.fr hF0 (fun h => h)).fr HF5.out HNp4.out
    have hps5 : PSound S5.now 0 8 := HPs4.out.agree (fun j s hj => HD5.out.len64 hj) HLn5.out (fun j hj => HAg5.out j (by omega))
    have hle5 : ∀ no, no < 8 → (pgAt S5.now 0 no).lsn ≤ K := fun no hno => by rw [pgAt_agree (fun j hj => HAg5.out j (by omega)) no hno]; exact HLe4.out no hno
    have HFw := Lib.hid hfw
    have HFa5 := Lib.hid hfa5
    have HPs5 := Lib.hid hps5
    have HLe5 := Lib.hid hle5
    clear hfw hfa5 hps5 hle5 HF5 HFa4 HPs4 HLe4 HAg5 HSub5 HLo hS hS5 hF0 hR4g HR4 HNp4 cd hgz4 hgz
    go_wp2_with fail
    go_loopw [18, 19, 20] (fun s18 _ _ wr => ∃ k : Nat, k ≤ 8 ∧ s18 = .int .i64 k ∧ Hid (Fr Nob w5 wr)) (fun s18 _ _ _ => 8 - (intOf s18).toNat)
    case atStart => exact ⟨0, by omega, rfl, Fr.refl _ _⟩
    case round =>
      obtain ⟨k, hk8, rfl, hF⟩ := hrel
      by_cases hlt : k < 8
      · have hkI : (k : Int) < 8 := by omega
        have hrd := pgRead_any k (HFa5.out.fr hF.out (fun h => h)) (HD5.out.new hF.out) HDd5.out HPs5.out hlt
        have HRd := Lib.hid hrd
        clear hrd
        go_wp2_with fail
        refine HRd.out.mono ?_
        rintro e w6 ⟨gx, ox, rfl, hbx, hgx1, hgx2, hf6⟩
        obtain ⟨ls, hls⟩ : ∃ ls, (pgAt S5.now 0 k).lsn = ls := ⟨_, rfl⟩
        have hlsK : ls < L5.next := by have h1 := HLe5.out k hlt; have h2 := HK5.out; omega
        rw [hls]
        have HF6 : Hid (Fr Nob w5 w6) := hF.out.trans hf6
        clear hbx hgx1 hgx2 hf6 HRd hls hF
        go_wp2
        have hfA : Fr Nob w6 (w6.alloc (.cells #[.int .i64 k, .int .u64 ls, .slice (some ⟨gx, ox, none⟩) 480 480] 40)) := (Fr.refl _ w6).alloc _
        have hbA : Blk (w6.alloc (.cells #[.int .i64 k, .int .u64 ls, .slice (some ⟨gx, ox, none⟩) 480 480] 40)) w6.heap.size 40 #[.int .i64 k, .int .u64 ls, .slice (some ⟨gx, ox, none⟩) 480 480] := Blk.new _ _ _
        obtain ⟨z, hz⟩ : ∃ z, w6.heap.size = z := ⟨_, rfl⟩
        rw [hz] at hbA ⊢
        obtain ⟨w7, hw7⟩ : ∃ W, w6.alloc (.cells #[.int .i64 k, .int .u64 ls, .slice (some ⟨gx, ox, none⟩) 480 480] 40) = W := ⟨_, rfl⟩
        rw [hw7] at hfA hbA ⊢
        have b1 := hbA.cell 1
        have bz := hbA.lt
        simp only [List.getElem?_toArray, List.getElem?_cons_zero, List.getElem?_cons_succ] at b1
        have HF7 : Hid (Fr Nob w5 w7) := HF6.out.trans hfA
        have HNx : Hid (∀ W, Fr Nob w5 W → Calls Tryz.prog 21 #[.pointer (some ⟨lp, 0, none⟩)] W fun e w' => e = .returned (.int .u64 L5.next) ∧ W = w') := fun W hW => Next_any (HLog5.out.new hW)
        have hnl : ¬ L5.next ≤ ls := by omega
        clear hfA hbA hz hw7
        have hS : Fr Nob w7 w7.drew := (Fr.refl _ w7).drew
        refine Rg.begin (Fr Nob w7) [] (by kernel_rfl) ?_
        refine Rg.op 0 (some 151) hS (v := ?v0x) (hy := fun wz hwz => ?h0x) (h := ?_)
        case h0x => (go_simp; try with_reducible rfl)
        refine Rg.op 1 (some 152) hS (v := (.bool false)) (hy := fun wz hwz => ?h1x) (h := ?_)
        case h1x => (go_simp; try with_reducible rfl)
        refine Rg.op 2 (some 153) hS (v := ?v2x) (hy := fun wz hwz => ?h2x) (h := ?_)
        case h2x => (go_simp; try with_reducible rfl)
        refine Rg.op 3 (some 154) hS (v := ?v3x) (hy := fun wz hwz => ?h3x) (h := ?_)
        case h3x => (have hpp := Nat.lt_of_lt_of_le bz hwz.size; go_simp; try with_reducible rfl)
        refine Rg.op 4 (some 155) hS (v := (.int .u64 ls)) (hy := fun wz hwz => ?h4x) (h := ?_)
        case h4x => (have cx := (hwz.cell (p := ⟨z, 1, none⟩) bz (fun h => h)).trans b1; have hpp := Nat.lt_of_lt_of_le bz hwz.size; go_simp; try with_reducible rfl)
        refine Rg.op 5 (some 156) hS (v := ?v5x) (hy := fun wz hwz => ?h5x) (h := ?_)
        case h5x => (go_simp; try with_reducible rfl)
        refine Rg.call 6 (some 157) (hrun := ?h6x) (hcall := HNx.out _ (HF7.out.trans hS)) (h := ?_)
        case h6x => (go_simp)
        rintro e wn ⟨rfl, rfl⟩
        refine ⟨_, ?a6x, rfl, ?b6x, (fun _ => hS), ?_⟩
        case b6x => (simp only [Act.put, List.setIfInBounds_toArray, List.set_cons_zero, List.set_cons_succ]; rfl)
        refine Rg.op 7 (some 158) hS (v := (.bool false)) (hy := fun wz hwz => ?h7x) (h := ?_)
        case h7x => (have hh := hnl; go_simp; try with_reducible rfl)
        refine Rg.op 8 (some 159) hS (v := (.bool false)) (hy := fun wz hwz => ?h8x) (h := ?_)
        case h8x => (go_simp; try with_reducible rfl)
        refine Rg.done _ (h := ?_)
        have HF8 : Hid (Fr Nob w5 w7.drew) := HF7.out.trans hS
        clear hS
        go_wp2_with fail
        go_roundw
        case rel => exact ⟨k + 1, by omega, by go_num, HF8⟩
        case measure => simp [intOf]; omega
      · obtain rfl : k = 8 := by omega
        have HF8 : Hid (Fr Nob w wr) := HFw.out.trans hF.out
        clear hF
        go_wp2_with fail
        refine (HAw.out _).mono ?_
        rintro e w9 ⟨rfl, hf9⟩
        go_wp2
        go_ret
        exact ⟨rfl, HF8.out.trans hf9⟩
end Go.Proofs.YtccmmnacejdeoaaGreatDoor
