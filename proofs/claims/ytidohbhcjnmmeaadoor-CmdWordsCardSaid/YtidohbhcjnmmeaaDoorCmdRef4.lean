/-
  The reference's SameOp and SameCmd.
-/
import Derived.Test.YtidohbhcjnmmeaaDoorCmdRef3
namespace Go.Proofs.YtidohbhcjnmmeaaDoor
set_option linter.unusedSimpArgs false
set_option linter.unusedVariables false
open Go.RowKit

set_option maxHeartbeats 6400000 in
set_option maxRecDepth 100000 in
theorem SameOp_any (ao aa ab : Int) (af : Bool) (al : List (Int × Int)) (bo ba bb : Int) (bf : Bool) (bl : List (Int × Int)) (A B : Option Addr) (ca cb : Nat) (w : World) (hA : PtsIn w A al) (hB : PtsIn w B bl) (ha : al.length ≤ 1000000) (hb : bl.length ≤ 1000000) :
    Calls Tryd.prog 25 #[.agg #[.int .i64 ao, .int .i64 aa, .int .i64 ab, .bool af, .slice A al.length ca], .agg #[.int .i64 bo, .int .i64 ba, .int .i64 bb, .bool bf, .slice B bl.length cb]] w fun e w' => e = .returned (.bool (decide (ao = bo ∧ aa = ba ∧ ab = bb ∧ af = bf ∧ al = bl))) ∧ Fr Nob w w' := by
  have qP := len_Ps
  obtain ⟨R, hR⟩ : ∃ R, decide (ao = bo ∧ aa = ba ∧ ab = bb ∧ af = bf ∧ al = bl) = R := ⟨_, rfl⟩
  have HR := Lib.hid hR
  rw [hR]
  obtain ⟨m, hm⟩ : ∃ m, al.length = m := ⟨_, rfl⟩
  obtain ⟨n, hn⟩ : ∃ n, bl.length = n := ⟨_, rfl⟩
  have HM := Lib.hid hm
  have HN := Lib.hid hn
  rw [hm] at ha ⊢
  rw [hn] at hb ⊢
  have HF2 : Hid (Fr Nob w ((w.alloc (.cells #[.int .i64 ao, .int .i64 aa, .int .i64 ab, .bool af, .slice A m ca] 28)).alloc (.cells #[.int .i64 bo, .int .i64 ba, .int .i64 bb, .bool bf, .slice B n cb] 28))) := ((Fr.refl _ _).alloc _).alloc _
  have HbA : Hid (Blk ((w.alloc (.cells #[.int .i64 ao, .int .i64 aa, .int .i64 ab, .bool af, .slice A m ca] 28)).alloc (.cells #[.int .i64 bo, .int .i64 ba, .int .i64 bb, .bool bf, .slice B n cb] 28)) w.heap.size 28 #[.int .i64 ao, .int .i64 aa, .int .i64 ab, .bool af, .slice A m ca]) := (Blk.new w _ _).alloc _
  have HbB : Hid (Blk ((w.alloc (.cells #[.int .i64 ao, .int .i64 aa, .int .i64 ab, .bool af, .slice A m ca] 28)).alloc (.cells #[.int .i64 bo, .int .i64 ba, .int .i64 bb, .bool bf, .slice B n cb] 28)) (w.heap.size + 1) 28 #[.int .i64 bo, .int .i64 ba, .int .i64 bb, .bool bf, .slice B n cb]) := by
    have := Blk.new (w.alloc (.cells #[.int .i64 ao, .int .i64 aa, .int .i64 ab, .bool af, .slice A m ca] 28)) 28 #[.int .i64 bo, .int .i64 ba, .int .i64 bb, .bool bf, .slice B n cb]
    rwa [World.size_alloc] at this
  have HA := Lib.hid (hA.new HF2.out)
  have HB := Lib.hid (hB.new HF2.out)
  clear hR hm hn hA hB
  go_enter Tryd.func25, Tryd.ntmps25
  by_cases h0 : ao = bo
  rotate_left
  · have hRf : R = false := by rw [← HR.out]; exact decide_eq_false (fun h => h0 h.1)
    have hkb : (ao == bo) = false := by simpa using h0
    rw [hRf]
    go_wp2
    go_ret
    exact ⟨rfl, HF2.out⟩
  subst h0
  by_cases h1 : aa = ba
  rotate_left
  · have hRf : R = false := by rw [← HR.out]; exact decide_eq_false (fun h => h1 h.2.1)
    have hkb : (aa == ba) = false := by simpa using h1
    rw [hRf]
    go_wp2
    go_ret
    exact ⟨rfl, HF2.out⟩
  subst h1
  by_cases h2 : ab = bb
  rotate_left
  · have hRf : R = false := by rw [← HR.out]; exact decide_eq_false (fun h => h2 h.2.2.1)
    have hkb : (ab == bb) = false := by simpa using h2
    rw [hRf]
    go_wp2
    go_ret
    exact ⟨rfl, HF2.out⟩
  subst h2
  by_cases h3 : af = bf
  rotate_left
  · have hRf : R = false := by rw [← HR.out]; exact decide_eq_false (fun h => h3 h.2.2.2.1)
    have hkb : (af == bf) = false := by simpa using h3
    rw [hRf]
    go_wp2
    go_ret
    exact ⟨rfl, HF2.out⟩
  subst h3
  by_cases hmn : m = n
  rotate_left
  · have hRf : R = false := by rw [← HR.out]; exact decide_eq_false (fun h => hmn (by rw [← HM.out, ← HN.out, h.2.2.2.2]))
    have kmn : ¬ ((m : Nat) : Int) = (n : Nat) := by omega
    rw [hRf]
    clear hmn
    go_wp2
    go_ret
    exact ⟨rfl, HF2.out⟩
  subst hmn
  have HRl : Hid (decide (al = bl) = R) := by
    show _ = _
    rw [← HR.out]
    apply decide_eq_decide.2
    exact ⟨fun h => ⟨rfl, rfl, rfl, rfl, h⟩, fun h => h.2.2.2.2⟩
  go_wp2
  go_loopw [5] (fun i wr => ∃ k : Nat, k ≤ m ∧ i = .int .i64 k ∧ Hid (al.take k = bl.take k) ∧ Hid (Fr Nob ((w.alloc (.cells #[.int .i64 ao, .int .i64 aa, .int .i64 ab, .bool af, .slice A m ca] 28)).alloc (.cells #[.int .i64 ao, .int .i64 aa, .int .i64 ab, .bool af, .slice B m cb] 28)) wr)) (fun i _ => m - (intOf i).toNat)
  case atStart => exact ⟨0, Nat.zero_le _, rfl, rfl, Fr.refl _ _⟩
  case round =>
    obtain ⟨k, hk, rfl, hT, hF⟩ := hrel
    have hza := (HbA.out.fr hF.out (fun h => h))
    have hzb := (HbB.out.fr hF.out (fun h => h))
    have va := hza.cell 4
    have vb := hzb.cell 4
    have hlza := hza.lt
    have hlzb := hzb.lt
    simp only [List.getElem?_toArray, List.getElem?_cons_zero, List.getElem?_cons_succ] at va vb
    clear hza hzb
    by_cases hlt : k < m
    · have hx1 : k < al.length := by rw [HM.out]; exact hlt
      have hy1 : k < bl.length := by rw [HN.out]; exact hlt
      obtain ⟨ga, oa, rfl, hca⟩ := HA.out (by omega)
      obtain ⟨gb, ob, rfl, hcb⟩ := HB.out (by omega)
      obtain ⟨a0, a1⟩ := hca k _ (List.getElem?_eq_getElem hx1)
      obtain ⟨b0, b1⟩ := hcb k _ (List.getElem?_eq_getElem hy1)
      have hla := cell_lt a0
      have hlb := cell_lt b0
      dsimp only at hla hlb
      rw [← hF.out.cell (cell_lt a0) (fun h => h)] at a0
      rw [← hF.out.cell (cell_lt a1) (fun h => h)] at a1
      rw [← hF.out.cell (cell_lt b0) (fun h => h)] at b0
      rw [← hF.out.cell (cell_lt b1) (fun h => h)] at b1
      have hga := Nat.lt_of_lt_of_le hla hF.out.size
      have hgb := Nat.lt_of_lt_of_le hlb hF.out.size
      have htx : al.take (k + 1) = al.take k ++ [al[k]] := (List.take_append_getElem hx1).symm
      have hty : bl.take (k + 1) = bl.take k ++ [bl[k]] := (List.take_append_getElem hy1).symm
      have hneq : al[k] ≠ bl[k] → al ≠ bl := fun h e => h (by subst e; rfl)
      obtain ⟨x, hxk⟩ : ∃ x, al[k] = x := ⟨_, rfl⟩
      obtain ⟨y, hyk⟩ : ∃ y, bl[k] = y := ⟨_, rfl⟩
      rw [hxk] at a0 a1 htx hneq
      rw [hyk] at b0 b1 hty hneq
      obtain ⟨x1, x2⟩ := x
      obtain ⟨y1, y2⟩ := y
      dsimp only at a0 a1 b0 b1
      have A0 := Lib.hid a0
      have A1 := Lib.hid a1
      have B0 := Lib.hid b0
      have B1 := Lib.hid b1
      have VA := Lib.hid va
      have VB := Lib.hid vb
      have HTx := Lib.hid htx
      have HTy := Lib.hid hty
      have HNe := Lib.hid hneq
      have ki : (0 : Int) ≤ (k : Int) := by omega
      have kn : k < m := hlt
      clear a0 a1 b0 b1 htx hty hneq hxk hyk hca hcb
      go_wp2
      have hS : Fr Nob wr wr.drew := (Fr.refl Nob wr).drew
      by_cases hxy : (x1, x2) = (y1, y2)
      · have HXY := Lib.hid hxy
        injection hxy with e1 e2
        subst e1 e2
        refine Rg.begin' (Fr Nob wr) [] (by kernel_rfl) ?_
        refine Rg.op 0 (some 48) hS (v := ?v0e) (a' := ?a0e) (hy := fun wz hwz => ?h0e) (ha := ?b0e) (h := ?_)
        case h0e => (have hpp := Nat.lt_of_lt_of_le hlza hwz.size; go_simp; try with_reducible rfl)
        case b0e => (simp only [Act.put, List.setIfInBounds_toArray, List.set_cons_zero, List.set_cons_succ]; rfl)
        refine Rg.op 1 (some 49) hS (v := (.slice (some ⟨ga, oa, none⟩) m ca)) (a' := ?a1e) (hy := fun wz hwz => ?h1e) (ha := ?b1e) (h := ?_)
        case h1e => (have hq := (hwz.cell (p := ⟨w.heap.size, 4, none⟩) hlza (fun h => h)).trans VA.out; have hpp := Nat.lt_of_lt_of_le hlza hwz.size; go_simp; try with_reducible rfl)
        case b1e => (simp only [Act.put, List.setIfInBounds_toArray, List.set_cons_zero, List.set_cons_succ]; rfl)
        refine Rg.op 2 (some 50) hS (v := ?v2e) (a' := ?a2e) (hy := fun wz hwz => ?h2e) (ha := ?b2e) (h := ?_)
        case h2e => (go_simp; try with_reducible rfl)
        case b2e => (simp only [Act.put, List.setIfInBounds_toArray, List.set_cons_zero, List.set_cons_succ]; rfl)
        refine Rg.op 3 (some 51) hS (v := ?v3e) (a' := ?a3e) (hy := fun wz hwz => ?h3e) (ha := ?b3e) (h := ?_)
        case h3e => (go_simp; try with_reducible rfl)
        case b3e => (simp only [Act.put, List.setIfInBounds_toArray, List.set_cons_zero, List.set_cons_succ]; rfl)
        refine Rg.op 4 (some 52) hS (v := (.agg #[.int .i64 x1, .int .i64 x2])) (a' := ?a4e) (hy := fun wz hwz => ?h4e) (ha := ?b4e) (h := ?_)
        case h4e => (have cc0 := (hwz.cell (p := ⟨ga, oa + k * 2, none⟩) hga (fun h => h)).trans A0.out; have cc1 := (hwz.cell (p := ⟨ga, oa + k * 2 + 1, none⟩) hga (fun h => h)).trans A1.out; have hpp := Nat.lt_of_lt_of_le hga hwz.size; go_simp; try with_reducible rfl)
        case b4e => (simp only [Act.put, List.setIfInBounds_toArray, List.set_cons_zero, List.set_cons_succ]; rfl)
        refine Rg.op 5 (some 53) hS (v := ?v5e) (a' := ?a5e) (hy := fun wz hwz => ?h5e) (ha := ?b5e) (h := ?_)
        case h5e => (have hpp := Nat.lt_of_lt_of_le hlzb hwz.size; go_simp; try with_reducible rfl)
        case b5e => (simp only [Act.put, List.setIfInBounds_toArray, List.set_cons_zero, List.set_cons_succ]; rfl)
        refine Rg.op 6 (some 54) hS (v := (.slice (some ⟨gb, ob, none⟩) m cb)) (a' := ?a6e) (hy := fun wz hwz => ?h6e) (ha := ?b6e) (h := ?_)
        case h6e => (have hq := (hwz.cell (p := ⟨w.heap.size + 1, 4, none⟩) hlzb (fun h => h)).trans VB.out; have hpp := Nat.lt_of_lt_of_le hlzb hwz.size; go_simp; try with_reducible rfl)
        case b6e => (simp only [Act.put, List.setIfInBounds_toArray, List.set_cons_zero, List.set_cons_succ]; rfl)
        refine Rg.op 7 (some 55) hS (v := ?v7e) (a' := ?a7e) (hy := fun wz hwz => ?h7e) (ha := ?b7e) (h := ?_)
        case h7e => (go_simp; try with_reducible rfl)
        case b7e => (simp only [Act.put, List.setIfInBounds_toArray, List.set_cons_zero, List.set_cons_succ]; rfl)
        refine Rg.op 8 (some 56) hS (v := ?v8e) (a' := ?a8e) (hy := fun wz hwz => ?h8e) (ha := ?b8e) (h := ?_)
        case h8e => (go_simp; try with_reducible rfl)
        case b8e => (simp only [Act.put, List.setIfInBounds_toArray, List.set_cons_zero, List.set_cons_succ]; rfl)
        refine Rg.op 9 (some 57) hS (v := (.agg #[.int .i64 x1, .int .i64 x2])) (a' := ?a9e) (hy := fun wz hwz => ?h9e) (ha := ?b9e) (h := ?_)
        case h9e => (have cc0 := (hwz.cell (p := ⟨gb, ob + k * 2, none⟩) hgb (fun h => h)).trans B0.out; have cc1 := (hwz.cell (p := ⟨gb, ob + k * 2 + 1, none⟩) hgb (fun h => h)).trans B1.out; have hpp := Nat.lt_of_lt_of_le hgb hwz.size; go_simp; try with_reducible rfl)
        case b9e => (simp only [Act.put, List.setIfInBounds_toArray, List.set_cons_zero, List.set_cons_succ]; rfl)
        refine Rg.op 10 (some 58) hS (v := (.bool false)) (a' := ?a10e) (hy := fun wz hwz => ?h10e) (ha := ?b10e) (h := ?_)
        case h10e => (skip; go_simp; try with_reducible rfl)
        case b10e => (simp only [Act.put, List.setIfInBounds_toArray, List.set_cons_zero, List.set_cons_succ]; rfl)
        refine Rg.done _ (h := ?_)
        go_wp2
        go_roundw
        case rel => exact ⟨k + 1, by omega, by go_num, by rw [HTx.out, HTy.out, hT.out]; rfl, hF.out.trans hS⟩
        case measure => simp [intOf]; omega
      · have HN2 : Hid (x1 = y1 → ¬x2 = y2) := fun h1 h2 => hxy (by rw [h1, h2])
        have HXY := Lib.hid (HNe.out hxy)
        clear hxy
        refine Rg.begin' (Fr Nob wr) [] (by kernel_rfl) ?_
        refine Rg.op 0 (some 48) hS (v := ?v0n) (a' := ?a0n) (hy := fun wz hwz => ?h0n) (ha := ?b0n) (h := ?_)
        case h0n => (have hpp := Nat.lt_of_lt_of_le hlza hwz.size; go_simp; try with_reducible rfl)
        case b0n => (simp only [Act.put, List.setIfInBounds_toArray, List.set_cons_zero, List.set_cons_succ]; rfl)
        refine Rg.op 1 (some 49) hS (v := (.slice (some ⟨ga, oa, none⟩) m ca)) (a' := ?a1n) (hy := fun wz hwz => ?h1n) (ha := ?b1n) (h := ?_)
        case h1n => (have hq := (hwz.cell (p := ⟨w.heap.size, 4, none⟩) hlza (fun h => h)).trans VA.out; have hpp := Nat.lt_of_lt_of_le hlza hwz.size; go_simp; try with_reducible rfl)
        case b1n => (simp only [Act.put, List.setIfInBounds_toArray, List.set_cons_zero, List.set_cons_succ]; rfl)
        refine Rg.op 2 (some 50) hS (v := ?v2n) (a' := ?a2n) (hy := fun wz hwz => ?h2n) (ha := ?b2n) (h := ?_)
        case h2n => (go_simp; try with_reducible rfl)
        case b2n => (simp only [Act.put, List.setIfInBounds_toArray, List.set_cons_zero, List.set_cons_succ]; rfl)
        refine Rg.op 3 (some 51) hS (v := ?v3n) (a' := ?a3n) (hy := fun wz hwz => ?h3n) (ha := ?b3n) (h := ?_)
        case h3n => (go_simp; try with_reducible rfl)
        case b3n => (simp only [Act.put, List.setIfInBounds_toArray, List.set_cons_zero, List.set_cons_succ]; rfl)
        refine Rg.op 4 (some 52) hS (v := (.agg #[.int .i64 x1, .int .i64 x2])) (a' := ?a4n) (hy := fun wz hwz => ?h4n) (ha := ?b4n) (h := ?_)
        case h4n => (have cc0 := (hwz.cell (p := ⟨ga, oa + k * 2, none⟩) hga (fun h => h)).trans A0.out; have cc1 := (hwz.cell (p := ⟨ga, oa + k * 2 + 1, none⟩) hga (fun h => h)).trans A1.out; have hpp := Nat.lt_of_lt_of_le hga hwz.size; go_simp; try with_reducible rfl)
        case b4n => (simp only [Act.put, List.setIfInBounds_toArray, List.set_cons_zero, List.set_cons_succ]; rfl)
        refine Rg.op 5 (some 53) hS (v := ?v5n) (a' := ?a5n) (hy := fun wz hwz => ?h5n) (ha := ?b5n) (h := ?_)
        case h5n => (have hpp := Nat.lt_of_lt_of_le hlzb hwz.size; go_simp; try with_reducible rfl)
        case b5n => (simp only [Act.put, List.setIfInBounds_toArray, List.set_cons_zero, List.set_cons_succ]; rfl)
        refine Rg.op 6 (some 54) hS (v := (.slice (some ⟨gb, ob, none⟩) m cb)) (a' := ?a6n) (hy := fun wz hwz => ?h6n) (ha := ?b6n) (h := ?_)
        case h6n => (have hq := (hwz.cell (p := ⟨w.heap.size + 1, 4, none⟩) hlzb (fun h => h)).trans VB.out; have hpp := Nat.lt_of_lt_of_le hlzb hwz.size; go_simp; try with_reducible rfl)
        case b6n => (simp only [Act.put, List.setIfInBounds_toArray, List.set_cons_zero, List.set_cons_succ]; rfl)
        refine Rg.op 7 (some 55) hS (v := ?v7n) (a' := ?a7n) (hy := fun wz hwz => ?h7n) (ha := ?b7n) (h := ?_)
        case h7n => (go_simp; try with_reducible rfl)
        case b7n => (simp only [Act.put, List.setIfInBounds_toArray, List.set_cons_zero, List.set_cons_succ]; rfl)
        refine Rg.op 8 (some 56) hS (v := ?v8n) (a' := ?a8n) (hy := fun wz hwz => ?h8n) (ha := ?b8n) (h := ?_)
        case h8n => (go_simp; try with_reducible rfl)
        case b8n => (simp only [Act.put, List.setIfInBounds_toArray, List.set_cons_zero, List.set_cons_succ]; rfl)
        refine Rg.op 9 (some 57) hS (v := (.agg #[.int .i64 y1, .int .i64 y2])) (a' := ?a9n) (hy := fun wz hwz => ?h9n) (ha := ?b9n) (h := ?_)
        case h9n => (have cc0 := (hwz.cell (p := ⟨gb, ob + k * 2, none⟩) hgb (fun h => h)).trans B0.out; have cc1 := (hwz.cell (p := ⟨gb, ob + k * 2 + 1, none⟩) hgb (fun h => h)).trans B1.out; have hpp := Nat.lt_of_lt_of_le hgb hwz.size; go_simp; try with_reducible rfl)
        case b9n => (simp only [Act.put, List.setIfInBounds_toArray, List.set_cons_zero, List.set_cons_succ]; rfl)
        refine Rg.op 10 (some 58) hS (v := (.bool true)) (a' := ?a10n) (hy := fun wz hwz => ?h10n) (ha := ?b10n) (h := ?_)
        case h10n => (skip; go_simp; exact HN2.out)
        case b10n => (simp only [Act.put, List.setIfInBounds_toArray, List.set_cons_zero, List.set_cons_succ]; rfl)
        refine Rg.done _ (h := ?_)
        go_wp2
        go_ret
        exact ⟨by rw [← HRl.out, decide_eq_false HXY.out]; rfl, (HF2.out.trans hF.out).trans hS⟩
    · obtain rfl : k = m := by omega
      have he : al = bl := by
        have := hT.out
        rwa [List.take_of_length_le (by rw [HM.out]; exact Nat.le_refl _), List.take_of_length_le (by rw [HN.out]; exact Nat.le_refl _)] at this
      have HE := Lib.hid he
      clear he hT
      go_wp2
      go_ret
      exact ⟨by rw [← HRl.out, decide_eq_true HE.out]; rfl, HF2.out.trans hF.out⟩

set_option maxHeartbeats 8000000 in
set_option maxRecDepth 100000 in
theorem SameCmd_any (c d : Cm) (A B : Option Addr) (ca cb : Nat) (w : World) (hA : PtsIn w A c.line) (hB : PtsIn w B d.line) (hc : c.line.length ≤ 1000000) (hd : d.line.length ≤ 1000000) :
    Calls Tryd.prog 13 #[c.v (.slice A c.line.length ca), d.v (.slice B d.line.length cb)] w fun e w' => e = .returned (.bool (decide (c = d))) ∧ Fr Nob w w' := by
  obtain ⟨ak, ao, aa, ab, af, al, ⟨ap1, ap2⟩, ⟨aq1, aq2⟩, an⟩ := c
  obtain ⟨bk, bo, ba, bb, bf, bl, ⟨bp1, bp2⟩, ⟨bq1, bq2⟩, bn⟩ := d
  unfold Cm.v
  dsimp only at hA hB hc hd ⊢
  obtain ⟨R, hR⟩ : ∃ R, decide ((⟨ak, ao, aa, ab, af, al, (ap1, ap2), (aq1, aq2), an⟩ : Cm) = ⟨bk, bo, ba, bb, bf, bl, (bp1, bp2), (bq1, bq2), bn⟩) = R := ⟨_, rfl⟩
  have HR : Hid (decide (ak = bk ∧ ap1 = bp1 ∧ ap2 = bp2 ∧ aq1 = bq1 ∧ aq2 = bq2 ∧ an = bn ∧ (ao = bo ∧ aa = ba ∧ ab = bb ∧ af = bf ∧ al = bl)) = R) := by
    show _ = _
    rw [← hR]
    apply decide_eq_decide.2
    constructor
    · rintro ⟨rfl, rfl, rfl, rfl, rfl, rfl, rfl, rfl, rfl, rfl, rfl⟩; rfl
    · intro h; cases h; exact ⟨rfl, rfl, rfl, rfl, rfl, rfl, rfl, rfl, rfl, rfl, rfl⟩
  rw [hR]
  have HQ : Hid (∀ W, Fr Nob w W → Calls Tryd.prog 25 #[.agg #[.int .i64 ao, .int .i64 aa, .int .i64 ab, .bool af, .slice A al.length ca], .agg #[.int .i64 bo, .int .i64 ba, .int .i64 bb, .bool bf, .slice B bl.length cb]] W fun e w' => e = .returned (.bool (decide (ao = bo ∧ aa = ba ∧ ab = bb ∧ af = bf ∧ al = bl))) ∧ Fr Nob W w') := fun W hW => SameOp_any ao aa ab af al bo ba bb bf bl A B ca cb W (hA.new hW) (hB.new hW) hc hd
  obtain ⟨m, hm⟩ : ∃ m, al.length = m := ⟨_, rfl⟩
  obtain ⟨n, hn⟩ : ∃ n, bl.length = n := ⟨_, rfl⟩
  rw [hm, hn] at HQ ⊢
  have HF2 : Hid (Fr Nob w ((w.alloc (.cells #[.int .i64 ak, .int .i64 ao, .int .i64 aa, .int .i64 ab, .bool af, .slice A m ca, .int .i64 ap1, .int .i64 ap2, .int .i64 aq1, .int .i64 aq2, .int .i64 an] 32)).alloc (.cells #[.int .i64 bk, .int .i64 bo, .int .i64 ba, .int .i64 bb, .bool bf, .slice B n cb, .int .i64 bp1, .int .i64 bp2, .int .i64 bq1, .int .i64 bq2, .int .i64 bn] 32))) := ((Fr.refl _ _).alloc _).alloc _
  obtain ⟨S, hS⟩ : ∃ S, decide (ao = bo ∧ aa = ba ∧ ab = bb ∧ af = bf ∧ al = bl) = S := ⟨_, rfl⟩
  rw [hS] at HQ
  have HS := Lib.hid hS
  clear hA hB hR hm hn hc hd hS
  go_enter Tryd.func13, Tryd.ntmps13
  by_cases h0 : ak = bk
  rotate_left
  · have hRf : R = false := by rw [← HR.out]; exact decide_eq_false (fun h => h0 h.1)
    rw [hRf]
    clear HQ
    go_wp2
    go_ret
    exact ⟨rfl, HF2.out⟩
  subst h0
  by_cases h1 : ap1 = bp1
  rotate_left
  · have hRf : R = false := by rw [← HR.out]; exact decide_eq_false (fun h => h1 h.2.1)
    rw [hRf]
    clear HQ
    go_wp2
    go_ret
    exact ⟨rfl, HF2.out⟩
  subst h1
  by_cases h2 : ap2 = bp2
  rotate_left
  · have hRf : R = false := by rw [← HR.out]; exact decide_eq_false (fun h => h2 h.2.2.1)
    rw [hRf]
    clear HQ
    go_wp2
    go_ret
    exact ⟨rfl, HF2.out⟩
  subst h2
  by_cases h3 : aq1 = bq1
  rotate_left
  · have hRf : R = false := by rw [← HR.out]; exact decide_eq_false (fun h => h3 h.2.2.2.1)
    rw [hRf]
    clear HQ
    go_wp2
    go_ret
    exact ⟨rfl, HF2.out⟩
  subst h3
  by_cases h4 : aq2 = bq2
  rotate_left
  · have hRf : R = false := by rw [← HR.out]; exact decide_eq_false (fun h => h4 h.2.2.2.2.1)
    rw [hRf]
    clear HQ
    go_wp2
    go_ret
    exact ⟨rfl, HF2.out⟩
  subst h4
  by_cases h5 : an = bn
  rotate_left
  · have hRf : R = false := by rw [← HR.out]; exact decide_eq_false (fun h => h5 h.2.2.2.2.2.1)
    rw [hRf]
    clear HQ
    go_wp2
    go_ret
    exact ⟨rfl, HF2.out⟩
  subst h5
  have HRS : Hid (S = R) := by
    show _ = _
    rw [← HR.out, ← HS.out]
    apply decide_eq_decide.2
    exact ⟨fun h => ⟨rfl, rfl, rfl, rfl, rfl, rfl, h⟩, fun h => h.2.2.2.2.2.2⟩
  go_wp2_with fail
  refine (HQ.out _ HF2.out).mono ?_
  rintro e w1 ⟨rfl, hf1⟩
  have HF3 := Lib.hid (HF2.out.trans hf1)
  clear hf1
  rw [HRS.out]
  go_wp2
  go_ret
  exact ⟨rfl, HF3.out⟩
end Go.Proofs.YtidohbhcjnmmeaaDoor
