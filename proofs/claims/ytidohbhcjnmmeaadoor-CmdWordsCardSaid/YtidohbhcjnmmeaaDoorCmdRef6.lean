/-
  The reference's line of a command.
-/
import Derived.Test.YtidohbhcjnmmeaaDoorCmdRef5
namespace Go.Proofs.YtidohbhcjnmmeaaDoor
set_option linter.unusedSimpArgs false
set_option linter.unusedVariables false
open Go.RowKit

/-- The numbers of a command, as the reference has them. -/
def numsR (x : Shp) (c : Cm) : List Int :=
  (if x.kind = 1 then [c.a, c.b] else [c.n]).take x.n ++ flat (if x.kind = 1 ∨ x.p = 0 then c.line.take 65 else [c.p, c.q].take x.p)
def lineC (c : Cm) : List UInt8 := match tblR.find? (matchT c) with
  | some x => ln x.word (numsR x c)
  | none => []
theorem ln_snoc (w : List UInt8) (ns : List Int) (n : Int) : ln w (ns ++ [n]) = ln w ns ++ [32] ++ Lib.itoa n := by simp [ln]
theorem ln_pair (w : List UInt8) (ns : List Int) (x y : Int) : ln w (ns ++ [x, y]) = ln w ns ++ [32] ++ Lib.itoa x ++ [32] ++ Lib.itoa y := by simp [ln]
theorem ln_nil (w : List UInt8) : ln w [] = w := by simp [ln]

set_option maxHeartbeats 6400000 in
set_option maxRecDepth 100000 in
theorem Line_any (c : Cm) (v : Value) (w : World) (hc : CmIn w c v) (hok : c.Ok) (hlen : c.line.length ≤ 1000000) : Calls Tryd.prog 26 #[v] w fun e w' => e = .returned (.string (tx (lineC c))) ∧ Fr Nob w w' := by
  have qP := len_Ps
  have HOk := Lib.hid hok
  have HNm := Lib.hid (fun W (hW : Fr Nob w W) => name_any c v W (hc.new hW))
  obtain ⟨A, m, rfl, hm, hpt⟩ := hc
  have HPt := Lib.hid hpt
  obtain ⟨R, hR⟩ : ∃ R, tx (lineC c) = R := ⟨_, rfl⟩
  have HR := Lib.hid hR
  rw [hR]
  obtain ⟨nm, hnm⟩ : ∃ nm, nameC c = nm := ⟨_, rfl⟩
  have HNmC := Lib.hid hnm
  rw [hnm] at HNm
  obtain ⟨C, hC⟩ : ∃ C, c = C := ⟨_, rfl⟩
  rw [hC] at HOk HR HNm HPt HNmC hm hlen ⊢
  clear hR hnm hC hok hpt
  obtain ⟨ck, co, ca, cb, cf, cl, ⟨p1, p2⟩, ⟨q1, q2⟩, cn⟩ := C
  unfold Cm.v at HNm ⊢
  dsimp only at hm hlen HPt HNm ⊢
  obtain ⟨M, hM⟩ : ∃ M, cl.length = M := ⟨_, rfl⟩
  have HM := Lib.hid hM
  rw [hM] at hm hlen HNm ⊢
  clear hM
  have HbC : Hid (Blk (w.alloc (.cells #[.int .i64 ck, .int .i64 co, .int .i64 ca, .int .i64 cb, .bool cf, .slice A M m, .int .i64 p1, .int .i64 p2, .int .i64 q1, .int .i64 q2, .int .i64 cn] 32)) w.heap.size 32 #[.int .i64 ck, .int .i64 co, .int .i64 ca, .int .i64 cb, .bool cf, .slice A M m, .int .i64 p1, .int .i64 p2, .int .i64 q1, .int .i64 q2, .int .i64 cn]) := Blk.new w _ _
  have HF0 : Hid (Fr Nob w (w.alloc (.cells #[.int .i64 ck, .int .i64 co, .int .i64 ca, .int .i64 cb, .bool cf, .slice A M m, .int .i64 p1, .int .i64 p2, .int .i64 q1, .int .i64 q2, .int .i64 cn] 32))) := (Fr.refl _ _).alloc _
  have d0 := HbC.out.cell 0
  have d1 := HbC.out.cell 1
  have hcl0 := HbC.out.lt
  go_enter Tryd.func26, Tryd.ntmps26
  go_wp2_with fail
  refine (HNm.out _ HF0.out).mono ?_
  rintro e w1 ⟨rfl, hf1⟩
  have HF1 := Lib.hid (HF0.out.trans hf1)
  have HbC1 := Lib.hid (HbC.out.fr hf1 (fun h => h))
  clear hf1 HNm d0 d1 hcl0 HbC HF0
  have hem : (tx nm).toList.isEmpty = decide (nm = []) := by rw [Lib.toList_data]; cases nm <;> rfl
  cases hfd : tblR.find? (matchT ⟨ck, co, ca, cb, cf, cl, (p1, p2), (q1, q2), cn⟩) with
  | none =>
    have hnil : nm = [] := by rw [← HNmC.out]; unfold nameC; rw [hfd]
    have hem' : (tx nm).toList.isEmpty = true := by rw [hem]; exact decide_eq_true hnil
    have HRn : Hid (R = tx []) := by show R = _; rw [← HR.out]; unfold lineC; rw [hfd]
    clear hem hnil hfd
    go_wp2
    go_ret
    exact ⟨by rw [HRn.out]; rfl, HF1.out⟩
  | some x =>
    have hxr := List.mem_of_find?_eq_some hfd
    have hxm := tblR_mem x hxr
    have hmt := List.find?_some hfd
    have hfw := tblR_find x hxr
    have hR := HR.out
    have hN := HNmC.out
    unfold lineC at hR
    unfold nameC at hN
    rw [hfd] at hR hN
    dsimp only at hR hN
    have hw0 := tbl_word x hxm
    have hb := tbl_bounds x hxm
    have hkk := tbl_kinds x hxm
    have hnp := tbl_np x hxm
    have hem' : (tx nm).toList.isEmpty = false := by rw [hem]; exact decide_eq_false (fun e => hw0 (by rw [hN, e]))
    have HFm := Lib.hid (fun W => forms_any nm W)
    rw [← hN, hfw] at HFm
    rw [hN] at HFm
    obtain ⟨lo, hlo⟩ : ∃ lo, x.lo = lo := ⟨_, rfl⟩
    obtain ⟨hi, hhi⟩ : ∃ hi, x.hi = hi := ⟨_, rfl⟩
    obtain ⟨wd, kd, op, fr, xn, xp⟩ := x
    obtain ⟨e1, e2, e3⟩ := of_decide_eq_true (p := kd = ck ∧ op = co ∧ fr = cf) hmt
    subst e1 e2 e3
    dsimp only at hR hN hb hkk hnp hw0
    subst hN
    have hwl := hkk.2
    have HKk := Lib.hid hkk.1
    have HNp := Lib.hid hnp
    have HR2 := Lib.hid hR
    have HLo := Lib.hid hlo
    clear hem hfd hmt hfw hw0 hR hkk hnp HR HNmC
    have d0 := HbC1.out.cell 0
    have d1 := HbC1.out.cell 1
    have hcl1 := HbC1.out.lt
    simp only [List.getElem?_toArray, List.getElem?_cons_zero, List.getElem?_cons_succ] at d0 d1
    go_wp2_with fail
    refine (HFm.out _).mono ?_
    rintro e w2 ⟨rfl, hf2⟩
    unfold formOf Shp.form
    dsimp only
    rw [hlo, hhi]
    have HF2 := Lib.hid (HF1.out.trans hf2)
    have HbC2 := Lib.hid (HbC1.out.fr hf2 (fun h => h))
    have hb2 := HbC2.out
    have d0 := hb2.cell 0
    have d1 := hb2.cell 1
    have d2 := hb2.cell 2
    have d3 := hb2.cell 3
    have d4 := hb2.cell 4
    have d5 := hb2.cell 5
    have d6 := hb2.cell 6
    have d7 := hb2.cell 7
    have d8 := hb2.cell 8
    have d9 := hb2.cell 9
    have d10 := hb2.cell 10
    simp only [List.getElem?_toArray, List.getElem?_cons_zero, List.getElem?_cons_succ] at d0 d1 d2 d3 d4 d5 d6 d7 d8 d9 d10
    have hcl2 := hb2.lt
    have hne1 : ¬ w.heap.size = w2.heap.size := by omega
    obtain ⟨hxn2, hxp3⟩ := hb
    have HA1 : Hid (I64 ca) := HOk.out.a
    have HA2 : Hid (I64 cb) := HOk.out.b
    have HA3 : Hid (I64 cn) := HOk.out.n
    have HNca := Lib.hid (fun W => num_any ca HA1.out.1 HA1.out.2 W)
    have HNcb := Lib.hid (fun W => num_any cb HA2.out.1 HA2.out.2 W)
    have HNcn := Lib.hid (fun W => num_any cn HA3.out.1 HA3.out.2 W)
    have HLp : Hid (∀ z ∈ cl, I64 z.1 ∧ I64 z.2) := HOk.out.line
    have HPp : Hid ((I64 p1 ∧ I64 p2) ∧ (I64 q1 ∧ I64 q2)) := ⟨HOk.out.p, HOk.out.q⟩
    clear hlo hhi hf2 hb2 HFm HbC1 HF1 hem' hxr HOk
    by_cases hk1 : kd = 1
    · subst hk1
      have hx3 : xn = 0 ∨ xn = 1 ∨ xn = 2 := by omega
      rcases hx3 with rfl | rfl | rfl
      · have HNums : Hid (numsR ⟨wd, 1, op, fr, 0, xp⟩ ⟨1, op, ca, cb, fr, cl, (p1, p2), (q1, q2), cn⟩ = [] ++ flat (cl.take 65)) := by
          show numsR _ _ = _
          unfold numsR
          dsimp only
          rw [if_pos rfl, if_pos (.inl rfl)]
          rfl
        have HRl : Hid (R = tx (ln wd ([] ++ flat (cl.take 65)))) := by show R = _; rw [← HR2.out, HNums.out]
        have HIn : Hid (∀ n ∈ [] ++ flat (cl.take 65), I64 n) := by
          intro n hn
          rcases List.mem_append.1 hn with h | h
          · simp only [List.mem_cons, List.not_mem_nil, or_false] at h
            try cases h
          · exact flat_in (fun z hz => HLp.out z (List.mem_of_mem_take hz)) n h
        have HPr : Hid (∀ V, Fr Nob (w2.alloc (.cells #[.int .i64 1, .int .i64 op, .bool fr, .int .i64 0, .int .i64 lo, .int .i64 hi] 64)) V → PtsIn V A cl) := fun V hV => ((HPt.out.new HF2.out).new ((Fr.refl Nob w2).alloc _)).new hV
        have HStart : Hid (ln wd ([] ++ flat (cl.take 0)) = wd) := by
          show ln wd ([] ++ flat (cl.take 0)) = _
          simp [flat, ln]
        go_wp2
        go_loopw [6, 8] (fun s i wr => ∃ k : Nat, k ≤ M ∧ k ≤ 65 ∧ i = .int .i64 k ∧ s = .string (tx (ln wd ([] ++ flat (cl.take k)))) ∧ Hid (Fr Nob (w2.alloc (.cells #[.int .i64 1, .int .i64 op, .bool fr, .int .i64 0, .int .i64 lo, .int .i64 hi] 64)) wr)) (fun _ i _ => M - (intOf i).toNat)
        case atStart => exact ⟨0, Nat.zero_le _, Nat.zero_le _, rfl, by rw [HStart.out], Fr.refl _ _⟩
        case round =>
          obtain ⟨k, hk, hk65, rfl, rfl, hF⟩ := hrel
          have hFw : Fr Nob w wr := (HF2.out.alloc _).trans hF.out
          have HFw := Lib.hid hFw
          clear hFw
          by_cases hlt : k < M
          · by_cases h64 : k ≤ 64
            · have hkl : k < cl.length := by rw [HM.out]; exact hlt
              obtain ⟨ga, oa, eA, hcc⟩ := HPr.out wr hF.out (by omega)
              subst eA
              obtain ⟨c0, c1⟩ := hcc k _ (List.getElem?_eq_getElem hkl)
              have hgz := cell_lt c0
              dsimp only at hgz
              have htk : cl.take (k + 1) = cl.take k ++ [cl[k]] := (List.take_append_getElem hkl).symm
              have hlen2 : ([] ++ flat (cl.take k)).length ≤ 200 := by rw [List.length_append, flat_length, List.length_take]; simp; omega
              have hpre : ∀ n ∈ [] ++ flat (cl.take k), I64 n := fun n hn => HIn.out n (by rcases List.mem_append.1 hn with h | h; exact List.mem_append.2 (.inl h); exact List.mem_append.2 (.inr (by obtain ⟨z, hz, hm⟩ := List.mem_flatMap.1 h; exact List.mem_flatMap.2 ⟨z, by rw [show k = min k 65 by omega, ← List.take_take] at hz; exact List.mem_of_mem_take hz, hm⟩)))
              have hll := ln_length wd _ hpre
              have hel : I64 cl[k].1 ∧ I64 cl[k].2 := HLp.out _ (List.getElem_mem hkl)
              obtain ⟨z, hz⟩ : ∃ z, cl[k] = z := ⟨_, rfl⟩
              rw [hz] at c0 c1 htk hel
              obtain ⟨x1, x2⟩ := z
              dsimp only at c0 c1 hel
              have hpr : ln wd ([] ++ flat (cl.take (k + 1))) = ln wd ([] ++ flat (cl.take k)) ++ [32] ++ Lib.itoa x1 ++ [32] ++ Lib.itoa x2 := by
                rw [htk, flat_snoc, ← List.append_assoc]; exact ln_pair _ _ _ _
              obtain ⟨Ls, hLs⟩ : ∃ Ls, ln wd ([] ++ flat (cl.take k)) = Ls := ⟨_, rfl⟩
              rw [hLs] at hll hpr ⊢
              obtain ⟨X, hX⟩ : ∃ X, Lib.itoa x1 = X := ⟨_, rfl⟩
              obtain ⟨Y, hY⟩ : ∃ Y, Lib.itoa x2 = Y := ⟨_, rfl⟩
              have HDx := Lib.hid (fun W => Digits_any x1 hel.1.1 hel.1.2 W)
              have HDy := Lib.hid (fun W => Digits_any x2 hel.2.1 hel.2.2 W)
              rw [hX] at HDx hpr
              rw [hY] at HDy hpr
              have hXl : X.length ≤ 21 := by rw [← hX]; exact Lib.itoa_length_le _ hel.1.1 hel.1.2
              have hYl : Y.length ≤ 21 := by rw [← hY]; exact Lib.itoa_length_le _ hel.2.1 hel.2.2
              obtain ⟨La, hLa⟩ : ∃ L, Ls ++ [32] ++ X = L := ⟨_, rfl⟩
              rw [hLa] at hpr
              obtain ⟨Lb, hLb⟩ : ∃ L, La ++ [32] ++ Y = L := ⟨_, rfl⟩
              rw [hLb] at hpr
              have T1 : Hid (tx Ls ++ ⟨#[32]⟩ = tx (Ls ++ [32])) := tx_append Ls [32]
              have T2 : Hid (tx (Ls ++ [32]) ++ tx X = tx La) := by show _ = _; rw [tx_append, hLa]
              have T3 : Hid (tx La ++ ⟨#[32]⟩ = tx (La ++ [32])) := tx_append La [32]
              have T4 : Hid (tx (La ++ [32]) ++ tx Y = tx Lb) := by show _ = _; rw [tx_append, hLb]
              have S1 : Hid ((tx Ls).size ≤ 10000) := by show Ls.length ≤ _; omega
              have S2 : Hid ((tx (Ls ++ [32])).size ≤ 10000) := by show (Ls ++ [32]).length ≤ _; simp; omega
              have S3 : Hid ((tx La).size ≤ 10000) := by show La.length ≤ _; rw [← hLa]; simp; omega
              have S4 : Hid ((tx (La ++ [32])).size ≤ 10000) := by show (La ++ [32]).length ≤ _; rw [← hLa]; simp; omega
              have SX : Hid ((tx X).size ≤ 100) := by show X.length ≤ _; omega
              have SY : Hid ((tx Y).size ≤ 100) := by show Y.length ≤ _; omega
              have HPr2 := Lib.hid hpr
              have C0 := Lib.hid c0
              have C1 := Lib.hid c1
              have k1 : (k : Int) < (M : Int) := by omega
              have k2 : (k : Int) ≤ 64 := by omega
              have ki : (0 : Int) ≤ (k : Int) := by omega
              clear hX hY hLa hLb hpr c0 c1 hcc htk hz hLs hel hpre
              go_wp2
              have hS : Fr Nob wr wr.drew := (Fr.refl Nob wr).drew
              refine Rg.begin' (Fr Nob wr) [] (by kernel_rfl) ?_
              refine Rg.op 0 (some 92) hS (v := ?v0v0) (a' := ?a0v0) (hy := fun wz hwz => ?h0v0) (ha := ?b0v0) (h := ?_)
              case h0v0 => (go_simp; try with_reducible rfl)
              case b0v0 => (simp only [Act.put, List.setIfInBounds_toArray, List.set_cons_zero, List.set_cons_succ]; rfl)
              refine Rg.op 1 (some 93) hS (v := (.string (tx (Ls ++ [32])))) (a' := ?a1v0) (hy := fun wz hwz => ?h1v0) (ha := ?b1v0) (h := ?_)
              case h1v0 => (have t := T1.out; have s := S1.out; go_simp; omega)
              case b1v0 => (simp only [Act.put, List.setIfInBounds_toArray, List.set_cons_zero, List.set_cons_succ]; rfl)
              refine Rg.op 2 (some 94) hS (v := ?v2v0) (a' := ?a2v0) (hy := fun wz hwz => ?h2v0) (ha := ?b2v0) (h := ?_)
              case h2v0 => (go_simp; try with_reducible rfl)
              case b2v0 => (simp only [Act.put, List.setIfInBounds_toArray, List.set_cons_zero, List.set_cons_succ]; rfl)
              refine Rg.op 3 (some 95) hS (v := ?v3v0) (a' := ?a3v0) (hy := fun wz hwz => ?h3v0) (ha := ?b3v0) (h := ?_)
              case h3v0 => (go_simp; try with_reducible rfl)
              case b3v0 => (simp only [Act.put, List.setIfInBounds_toArray, List.set_cons_zero, List.set_cons_succ]; rfl)
              refine Rg.op 4 (some 96) hS (v := ?v4v0) (a' := ?a4v0) (hy := fun wz hwz => ?h4v0) (ha := ?b4v0) (h := ?_)
              case h4v0 => (have hq := hlt; go_simp; try with_reducible rfl)
              case b4v0 => (simp only [Act.put, List.setIfInBounds_toArray, List.set_cons_zero, List.set_cons_succ]; rfl)
              refine Rg.op 5 (some 97) hS (v := ?v5v0) (a' := ?a5v0) (hy := fun wz hwz => ?h5v0) (ha := ?b5v0) (h := ?_)
              case h5v0 => (have hpp := Nat.lt_of_lt_of_le hgz hwz.size; go_simp; try with_reducible rfl)
              case b5v0 => (simp only [Act.put, List.setIfInBounds_toArray, List.set_cons_zero, List.set_cons_succ]; rfl)
              refine Rg.op 6 (some 98) hS (v := (.int .i64 x1)) (a' := ?a6v0) (hy := fun wz hwz => ?h6v0) (ha := ?b6v0) (h := ?_)
              case h6v0 => (have cx := (hwz.cell (p := ⟨ga, oa + k * 2, none⟩) hgz (fun h => h)).trans C0.out; have hpp := Nat.lt_of_lt_of_le hgz hwz.size; go_simp; try with_reducible rfl)
              case b6v0 => (simp only [Act.put, List.setIfInBounds_toArray, List.set_cons_zero, List.set_cons_succ]; rfl)
              refine Rg.op 10 (some 102) hS (v := ?v10v0) (a' := ?a10v0) (hy := fun wz hwz => ?h10v0) (ha := ?b10v0) (h := ?_)
              case h10v0 => (go_simp; try with_reducible rfl)
              case b10v0 => (simp only [Act.put, List.setIfInBounds_toArray, List.set_cons_zero, List.set_cons_succ]; rfl)
              refine Rg.op 11 (some 103) hS (v := ?v11v0) (a' := ?a11v0) (hy := fun wz hwz => ?h11v0) (ha := ?b11v0) (h := ?_)
              case h11v0 => (go_simp; try with_reducible rfl)
              case b11v0 => (simp only [Act.put, List.setIfInBounds_toArray, List.set_cons_zero, List.set_cons_succ]; rfl)
              refine Rg.op 12 (some 104) hS (v := ?v12v0) (a' := ?a12v0) (hy := fun wz hwz => ?h12v0) (ha := ?b12v0) (h := ?_)
              case h12v0 => (have hq := hlt; go_simp; try with_reducible rfl)
              case b12v0 => (simp only [Act.put, List.setIfInBounds_toArray, List.set_cons_zero, List.set_cons_succ]; rfl)
              refine Rg.op 13 (some 105) hS (v := ?v13v0) (a' := ?a13v0) (hy := fun wz hwz => ?h13v0) (ha := ?b13v0) (h := ?_)
              case h13v0 => (have hpp := Nat.lt_of_lt_of_le hgz hwz.size; go_simp; try with_reducible rfl)
              case b13v0 => (simp only [Act.put, List.setIfInBounds_toArray, List.set_cons_zero, List.set_cons_succ]; rfl)
              refine Rg.op 14 (some 106) hS (v := (.int .i64 x2)) (a' := ?a14v0) (hy := fun wz hwz => ?h14v0) (ha := ?b14v0) (h := ?_)
              case h14v0 => (have cx := (hwz.cell (p := ⟨ga, oa + k * 2 + 1, none⟩) hgz (fun h => h)).trans C1.out; have hpp := Nat.lt_of_lt_of_le hgz hwz.size; go_simp; try with_reducible rfl)
              case b14v0 => (simp only [Act.put, List.setIfInBounds_toArray, List.set_cons_zero, List.set_cons_succ]; rfl)
              refine Rg.call 7 (some 99) (hrun := ?h7v0) (hcall := HDx.out _) (h := ?_)
              case h7v0 => (go_simp)
              rintro e w9 ⟨rfl, rfl⟩
              refine ⟨_, ?a7v0, rfl, ?b7v0, (fun _ => hS), ?_⟩
              case b7v0 => (simp only [Act.put, List.setIfInBounds_toArray, List.set_cons_zero, List.set_cons_succ]; rfl)
              refine Rg.op 8 (some 100) hS (v := (.string (tx La))) (a' := ?a8v0) (hy := fun wz hwz => ?h8v0) (ha := ?b8v0) (h := ?_)
              case h8v0 => (have t := T2.out; have s := S2.out; have s2 := SX.out; go_simp; omega)
              case b8v0 => (simp only [Act.put, List.setIfInBounds_toArray, List.set_cons_zero, List.set_cons_succ]; rfl)
              refine Rg.op 9 (some 101) hS (v := (.string (tx (La ++ [32])))) (a' := ?a9v0) (hy := fun wz hwz => ?h9v0) (ha := ?b9v0) (h := ?_)
              case h9v0 => (have t := T3.out; have s := S3.out; go_simp; omega)
              case b9v0 => (simp only [Act.put, List.setIfInBounds_toArray, List.set_cons_zero, List.set_cons_succ]; rfl)
              refine Rg.call 15 (some 107) (hrun := ?h15v0) (hcall := HDy.out _) (h := ?_)
              case h15v0 => (go_simp)
              rintro e w9 ⟨rfl, rfl⟩
              refine ⟨_, ?a15v0, rfl, ?b15v0, (fun _ => hS), ?_⟩
              case b15v0 => (simp only [Act.put, List.setIfInBounds_toArray, List.set_cons_zero, List.set_cons_succ]; rfl)
              refine Rg.op 16 (some 108) hS (v := (.string (tx Lb))) (a' := ?a16v0) (hy := fun wz hwz => ?h16v0) (ha := ?b16v0) (h := ?_)
              case h16v0 => (have t := T4.out; have s := S4.out; have s2 := SY.out; go_simp; omega)
              case b16v0 => (simp only [Act.put, List.setIfInBounds_toArray, List.set_cons_zero, List.set_cons_succ]; rfl)
              refine Rg.op 17 (some 6) hS (v := ?v17v0) (a' := ?a17v0) (hy := fun wz hwz => ?h17v0) (ha := ?b17v0) (h := ?_)
              case h17v0 => (go_simp; try with_reducible rfl)
              case b17v0 => (simp only [Act.put, List.setIfInBounds_toArray, List.set_cons_zero, List.set_cons_succ]; rfl)
              refine Rg.done _ (h := ?_)
              go_wp2
              go_roundw
              case rel => exact ⟨k + 1, by omega, by omega, by go_num, by rw [HPr2.out], hF.out.trans hS⟩
              case measure => simp [intOf]; omega
            · have k1 : (k : Int) < (M : Int) := by omega
              have k2 : ¬ (k : Int) ≤ 64 := by omega
              obtain rfl : k = 65 := by omega
              go_wp2
              go_ret
              exact ⟨by rw [HRl.out]; rfl, HFw.out⟩
          · obtain rfl : k = M := by omega
            have he : cl.take 65 = cl.take k := by rw [List.take_of_length_le (by rw [HM.out]; omega), List.take_of_length_le (by rw [HM.out]; exact Nat.le_refl _)]
            have hRk := HRl.out
            rw [he] at hRk
            have HRk := Lib.hid hRk
            clear hRk he
            go_wp2
            go_ret
            exact ⟨by rw [HRk.out]; rfl, HFw.out⟩
      · have HNums : Hid (numsR ⟨wd, 1, op, fr, 1, xp⟩ ⟨1, op, ca, cb, fr, cl, (p1, p2), (q1, q2), cn⟩ = [ca] ++ flat (cl.take 65)) := by
          show numsR _ _ = _
          unfold numsR
          dsimp only
          rw [if_pos rfl, if_pos (.inl rfl)]
          rfl
        have HRl : Hid (R = tx (ln wd ([ca] ++ flat (cl.take 65)))) := by show R = _; rw [← HR2.out, HNums.out]
        have HIn : Hid (∀ n ∈ [ca] ++ flat (cl.take 65), I64 n) := by
          intro n hn
          rcases List.mem_append.1 hn with h | h
          · simp only [List.mem_cons, List.not_mem_nil, or_false] at h
            subst h
            exact HA1.out
          · exact flat_in (fun z hz => HLp.out z (List.mem_of_mem_take hz)) n h
        have HPr : Hid (∀ V, Fr Nob (w2.alloc (.cells #[.int .i64 1, .int .i64 op, .bool fr, .int .i64 1, .int .i64 lo, .int .i64 hi] 64)) V → PtsIn V A cl) := fun V hV => ((HPt.out.new HF2.out).new ((Fr.refl Nob w2).alloc _)).new hV
        obtain ⟨T0, hT0⟩ : ∃ T, Lib.itoa ca = T := ⟨_, rfl⟩
        have ta0 : tx (wd) ++ ⟨#[32]⟩ = tx (wd ++ [32]) := tx_append (wd) [32]
        obtain ⟨L0, hL0⟩ : ∃ L, wd ++ [32] ++ T0 = L := ⟨_, rfl⟩
        have tb0 : tx (wd ++ [32]) ++ tx T0 = tx L0 := by rw [tx_append, hL0]
        have hT0l : T0.length ≤ 21 := by rw [← hT0]; exact Lib.itoa_length_le _ HA1.out.1 HA1.out.2
        have hL0l : L0.length ≤ 300 := by rw [← hL0]; simp; omega
        have sa0 : (tx (wd)).size = wd.length := rfl
        have sb0 : (tx (wd ++ [32])).size = wd.length + 1 := by show (wd ++ [32]).length = _; simp
        have sc0 : (tx T0).size = T0.length := rfl
        have HT0 := Lib.hid hT0
        have HL0 := Lib.hid hL0
        rw [hT0] at HNca
        have HStart : Hid (ln wd ([ca] ++ flat (cl.take 0)) = L0) := by
          show ln wd ([ca] ++ flat (cl.take 0)) = _
          simp [flat, ln, ← hL0, ← hT0]
        clear hT0 hL0
        go_wp2_with fail
        refine (HNca.out _).mono ?_
        rintro e w9 ⟨rfl, rfl⟩
        go_wp2
        go_loopw [6, 8] (fun s i wr => ∃ k : Nat, k ≤ M ∧ k ≤ 65 ∧ i = .int .i64 k ∧ s = .string (tx (ln wd ([ca] ++ flat (cl.take k)))) ∧ Hid (Fr Nob (w2.alloc (.cells #[.int .i64 1, .int .i64 op, .bool fr, .int .i64 1, .int .i64 lo, .int .i64 hi] 64)) wr)) (fun _ i _ => M - (intOf i).toNat)
        case atStart => exact ⟨0, Nat.zero_le _, Nat.zero_le _, rfl, by rw [HStart.out], Fr.refl _ _⟩
        case round =>
          obtain ⟨k, hk, hk65, rfl, rfl, hF⟩ := hrel
          have hFw : Fr Nob w wr := (HF2.out.alloc _).trans hF.out
          have HFw := Lib.hid hFw
          clear hFw
          by_cases hlt : k < M
          · by_cases h64 : k ≤ 64
            · have hkl : k < cl.length := by rw [HM.out]; exact hlt
              obtain ⟨ga, oa, eA, hcc⟩ := HPr.out wr hF.out (by omega)
              subst eA
              obtain ⟨c0, c1⟩ := hcc k _ (List.getElem?_eq_getElem hkl)
              have hgz := cell_lt c0
              dsimp only at hgz
              have htk : cl.take (k + 1) = cl.take k ++ [cl[k]] := (List.take_append_getElem hkl).symm
              have hlen2 : ([ca] ++ flat (cl.take k)).length ≤ 200 := by rw [List.length_append, flat_length, List.length_take]; simp; omega
              have hpre : ∀ n ∈ [ca] ++ flat (cl.take k), I64 n := fun n hn => HIn.out n (by rcases List.mem_append.1 hn with h | h; exact List.mem_append.2 (.inl h); exact List.mem_append.2 (.inr (by obtain ⟨z, hz, hm⟩ := List.mem_flatMap.1 h; exact List.mem_flatMap.2 ⟨z, by rw [show k = min k 65 by omega, ← List.take_take] at hz; exact List.mem_of_mem_take hz, hm⟩)))
              have hll := ln_length wd _ hpre
              have hel : I64 cl[k].1 ∧ I64 cl[k].2 := HLp.out _ (List.getElem_mem hkl)
              obtain ⟨z, hz⟩ : ∃ z, cl[k] = z := ⟨_, rfl⟩
              rw [hz] at c0 c1 htk hel
              obtain ⟨x1, x2⟩ := z
              dsimp only at c0 c1 hel
              have hpr : ln wd ([ca] ++ flat (cl.take (k + 1))) = ln wd ([ca] ++ flat (cl.take k)) ++ [32] ++ Lib.itoa x1 ++ [32] ++ Lib.itoa x2 := by
                rw [htk, flat_snoc, ← List.append_assoc]; exact ln_pair _ _ _ _
              obtain ⟨Ls, hLs⟩ : ∃ Ls, ln wd ([ca] ++ flat (cl.take k)) = Ls := ⟨_, rfl⟩
              rw [hLs] at hll hpr ⊢
              obtain ⟨X, hX⟩ : ∃ X, Lib.itoa x1 = X := ⟨_, rfl⟩
              obtain ⟨Y, hY⟩ : ∃ Y, Lib.itoa x2 = Y := ⟨_, rfl⟩
              have HDx := Lib.hid (fun W => Digits_any x1 hel.1.1 hel.1.2 W)
              have HDy := Lib.hid (fun W => Digits_any x2 hel.2.1 hel.2.2 W)
              rw [hX] at HDx hpr
              rw [hY] at HDy hpr
              have hXl : X.length ≤ 21 := by rw [← hX]; exact Lib.itoa_length_le _ hel.1.1 hel.1.2
              have hYl : Y.length ≤ 21 := by rw [← hY]; exact Lib.itoa_length_le _ hel.2.1 hel.2.2
              obtain ⟨La, hLa⟩ : ∃ L, Ls ++ [32] ++ X = L := ⟨_, rfl⟩
              rw [hLa] at hpr
              obtain ⟨Lb, hLb⟩ : ∃ L, La ++ [32] ++ Y = L := ⟨_, rfl⟩
              rw [hLb] at hpr
              have T1 : Hid (tx Ls ++ ⟨#[32]⟩ = tx (Ls ++ [32])) := tx_append Ls [32]
              have T2 : Hid (tx (Ls ++ [32]) ++ tx X = tx La) := by show _ = _; rw [tx_append, hLa]
              have T3 : Hid (tx La ++ ⟨#[32]⟩ = tx (La ++ [32])) := tx_append La [32]
              have T4 : Hid (tx (La ++ [32]) ++ tx Y = tx Lb) := by show _ = _; rw [tx_append, hLb]
              have S1 : Hid ((tx Ls).size ≤ 10000) := by show Ls.length ≤ _; omega
              have S2 : Hid ((tx (Ls ++ [32])).size ≤ 10000) := by show (Ls ++ [32]).length ≤ _; simp; omega
              have S3 : Hid ((tx La).size ≤ 10000) := by show La.length ≤ _; rw [← hLa]; simp; omega
              have S4 : Hid ((tx (La ++ [32])).size ≤ 10000) := by show (La ++ [32]).length ≤ _; rw [← hLa]; simp; omega
              have SX : Hid ((tx X).size ≤ 100) := by show X.length ≤ _; omega
              have SY : Hid ((tx Y).size ≤ 100) := by show Y.length ≤ _; omega
              have HPr2 := Lib.hid hpr
              have C0 := Lib.hid c0
              have C1 := Lib.hid c1
              have k1 : (k : Int) < (M : Int) := by omega
              have k2 : (k : Int) ≤ 64 := by omega
              have ki : (0 : Int) ≤ (k : Int) := by omega
              clear hX hY hLa hLb hpr c0 c1 hcc htk hz hLs hel hpre
              go_wp2
              have hS : Fr Nob wr wr.drew := (Fr.refl Nob wr).drew
              refine Rg.begin' (Fr Nob wr) [] (by kernel_rfl) ?_
              refine Rg.op 0 (some 92) hS (v := ?v0v1) (a' := ?a0v1) (hy := fun wz hwz => ?h0v1) (ha := ?b0v1) (h := ?_)
              case h0v1 => (go_simp; try with_reducible rfl)
              case b0v1 => (simp only [Act.put, List.setIfInBounds_toArray, List.set_cons_zero, List.set_cons_succ]; rfl)
              refine Rg.op 1 (some 93) hS (v := (.string (tx (Ls ++ [32])))) (a' := ?a1v1) (hy := fun wz hwz => ?h1v1) (ha := ?b1v1) (h := ?_)
              case h1v1 => (have t := T1.out; have s := S1.out; go_simp; omega)
              case b1v1 => (simp only [Act.put, List.setIfInBounds_toArray, List.set_cons_zero, List.set_cons_succ]; rfl)
              refine Rg.op 2 (some 94) hS (v := ?v2v1) (a' := ?a2v1) (hy := fun wz hwz => ?h2v1) (ha := ?b2v1) (h := ?_)
              case h2v1 => (go_simp; try with_reducible rfl)
              case b2v1 => (simp only [Act.put, List.setIfInBounds_toArray, List.set_cons_zero, List.set_cons_succ]; rfl)
              refine Rg.op 3 (some 95) hS (v := ?v3v1) (a' := ?a3v1) (hy := fun wz hwz => ?h3v1) (ha := ?b3v1) (h := ?_)
              case h3v1 => (go_simp; try with_reducible rfl)
              case b3v1 => (simp only [Act.put, List.setIfInBounds_toArray, List.set_cons_zero, List.set_cons_succ]; rfl)
              refine Rg.op 4 (some 96) hS (v := ?v4v1) (a' := ?a4v1) (hy := fun wz hwz => ?h4v1) (ha := ?b4v1) (h := ?_)
              case h4v1 => (have hq := hlt; go_simp; try with_reducible rfl)
              case b4v1 => (simp only [Act.put, List.setIfInBounds_toArray, List.set_cons_zero, List.set_cons_succ]; rfl)
              refine Rg.op 5 (some 97) hS (v := ?v5v1) (a' := ?a5v1) (hy := fun wz hwz => ?h5v1) (ha := ?b5v1) (h := ?_)
              case h5v1 => (have hpp := Nat.lt_of_lt_of_le hgz hwz.size; go_simp; try with_reducible rfl)
              case b5v1 => (simp only [Act.put, List.setIfInBounds_toArray, List.set_cons_zero, List.set_cons_succ]; rfl)
              refine Rg.op 6 (some 98) hS (v := (.int .i64 x1)) (a' := ?a6v1) (hy := fun wz hwz => ?h6v1) (ha := ?b6v1) (h := ?_)
              case h6v1 => (have cx := (hwz.cell (p := ⟨ga, oa + k * 2, none⟩) hgz (fun h => h)).trans C0.out; have hpp := Nat.lt_of_lt_of_le hgz hwz.size; go_simp; try with_reducible rfl)
              case b6v1 => (simp only [Act.put, List.setIfInBounds_toArray, List.set_cons_zero, List.set_cons_succ]; rfl)
              refine Rg.op 10 (some 102) hS (v := ?v10v1) (a' := ?a10v1) (hy := fun wz hwz => ?h10v1) (ha := ?b10v1) (h := ?_)
              case h10v1 => (go_simp; try with_reducible rfl)
              case b10v1 => (simp only [Act.put, List.setIfInBounds_toArray, List.set_cons_zero, List.set_cons_succ]; rfl)
              refine Rg.op 11 (some 103) hS (v := ?v11v1) (a' := ?a11v1) (hy := fun wz hwz => ?h11v1) (ha := ?b11v1) (h := ?_)
              case h11v1 => (go_simp; try with_reducible rfl)
              case b11v1 => (simp only [Act.put, List.setIfInBounds_toArray, List.set_cons_zero, List.set_cons_succ]; rfl)
              refine Rg.op 12 (some 104) hS (v := ?v12v1) (a' := ?a12v1) (hy := fun wz hwz => ?h12v1) (ha := ?b12v1) (h := ?_)
              case h12v1 => (have hq := hlt; go_simp; try with_reducible rfl)
              case b12v1 => (simp only [Act.put, List.setIfInBounds_toArray, List.set_cons_zero, List.set_cons_succ]; rfl)
              refine Rg.op 13 (some 105) hS (v := ?v13v1) (a' := ?a13v1) (hy := fun wz hwz => ?h13v1) (ha := ?b13v1) (h := ?_)
              case h13v1 => (have hpp := Nat.lt_of_lt_of_le hgz hwz.size; go_simp; try with_reducible rfl)
              case b13v1 => (simp only [Act.put, List.setIfInBounds_toArray, List.set_cons_zero, List.set_cons_succ]; rfl)
              refine Rg.op 14 (some 106) hS (v := (.int .i64 x2)) (a' := ?a14v1) (hy := fun wz hwz => ?h14v1) (ha := ?b14v1) (h := ?_)
              case h14v1 => (have cx := (hwz.cell (p := ⟨ga, oa + k * 2 + 1, none⟩) hgz (fun h => h)).trans C1.out; have hpp := Nat.lt_of_lt_of_le hgz hwz.size; go_simp; try with_reducible rfl)
              case b14v1 => (simp only [Act.put, List.setIfInBounds_toArray, List.set_cons_zero, List.set_cons_succ]; rfl)
              refine Rg.call 7 (some 99) (hrun := ?h7v1) (hcall := HDx.out _) (h := ?_)
              case h7v1 => (go_simp)
              rintro e w9 ⟨rfl, rfl⟩
              refine ⟨_, ?a7v1, rfl, ?b7v1, (fun _ => hS), ?_⟩
              case b7v1 => (simp only [Act.put, List.setIfInBounds_toArray, List.set_cons_zero, List.set_cons_succ]; rfl)
              refine Rg.op 8 (some 100) hS (v := (.string (tx La))) (a' := ?a8v1) (hy := fun wz hwz => ?h8v1) (ha := ?b8v1) (h := ?_)
              case h8v1 => (have t := T2.out; have s := S2.out; have s2 := SX.out; go_simp; omega)
              case b8v1 => (simp only [Act.put, List.setIfInBounds_toArray, List.set_cons_zero, List.set_cons_succ]; rfl)
              refine Rg.op 9 (some 101) hS (v := (.string (tx (La ++ [32])))) (a' := ?a9v1) (hy := fun wz hwz => ?h9v1) (ha := ?b9v1) (h := ?_)
              case h9v1 => (have t := T3.out; have s := S3.out; go_simp; omega)
              case b9v1 => (simp only [Act.put, List.setIfInBounds_toArray, List.set_cons_zero, List.set_cons_succ]; rfl)
              refine Rg.call 15 (some 107) (hrun := ?h15v1) (hcall := HDy.out _) (h := ?_)
              case h15v1 => (go_simp)
              rintro e w9 ⟨rfl, rfl⟩
              refine ⟨_, ?a15v1, rfl, ?b15v1, (fun _ => hS), ?_⟩
              case b15v1 => (simp only [Act.put, List.setIfInBounds_toArray, List.set_cons_zero, List.set_cons_succ]; rfl)
              refine Rg.op 16 (some 108) hS (v := (.string (tx Lb))) (a' := ?a16v1) (hy := fun wz hwz => ?h16v1) (ha := ?b16v1) (h := ?_)
              case h16v1 => (have t := T4.out; have s := S4.out; have s2 := SY.out; go_simp; omega)
              case b16v1 => (simp only [Act.put, List.setIfInBounds_toArray, List.set_cons_zero, List.set_cons_succ]; rfl)
              refine Rg.op 17 (some 6) hS (v := ?v17v1) (a' := ?a17v1) (hy := fun wz hwz => ?h17v1) (ha := ?b17v1) (h := ?_)
              case h17v1 => (go_simp; try with_reducible rfl)
              case b17v1 => (simp only [Act.put, List.setIfInBounds_toArray, List.set_cons_zero, List.set_cons_succ]; rfl)
              refine Rg.done _ (h := ?_)
              go_wp2
              go_roundw
              case rel => exact ⟨k + 1, by omega, by omega, by go_num, by rw [HPr2.out], hF.out.trans hS⟩
              case measure => simp [intOf]; omega
            · have k1 : (k : Int) < (M : Int) := by omega
              have k2 : ¬ (k : Int) ≤ 64 := by omega
              obtain rfl : k = 65 := by omega
              go_wp2
              go_ret
              exact ⟨by rw [HRl.out]; rfl, HFw.out⟩
          · obtain rfl : k = M := by omega
            have he : cl.take 65 = cl.take k := by rw [List.take_of_length_le (by rw [HM.out]; omega), List.take_of_length_le (by rw [HM.out]; exact Nat.le_refl _)]
            have hRk := HRl.out
            rw [he] at hRk
            have HRk := Lib.hid hRk
            clear hRk he
            go_wp2
            go_ret
            exact ⟨by rw [HRk.out]; rfl, HFw.out⟩
      · have HNums : Hid (numsR ⟨wd, 1, op, fr, 2, xp⟩ ⟨1, op, ca, cb, fr, cl, (p1, p2), (q1, q2), cn⟩ = [ca, cb] ++ flat (cl.take 65)) := by
          show numsR _ _ = _
          unfold numsR
          dsimp only
          rw [if_pos rfl, if_pos (.inl rfl)]
          rfl
        have HRl : Hid (R = tx (ln wd ([ca, cb] ++ flat (cl.take 65)))) := by show R = _; rw [← HR2.out, HNums.out]
        have HIn : Hid (∀ n ∈ [ca, cb] ++ flat (cl.take 65), I64 n) := by
          intro n hn
          rcases List.mem_append.1 hn with h | h
          · simp only [List.mem_cons, List.not_mem_nil, or_false] at h
            rcases h with rfl | rfl
            · exact HA1.out
            · exact HA2.out
          · exact flat_in (fun z hz => HLp.out z (List.mem_of_mem_take hz)) n h
        have HPr : Hid (∀ V, Fr Nob (w2.alloc (.cells #[.int .i64 1, .int .i64 op, .bool fr, .int .i64 2, .int .i64 lo, .int .i64 hi] 64)) V → PtsIn V A cl) := fun V hV => ((HPt.out.new HF2.out).new ((Fr.refl Nob w2).alloc _)).new hV
        obtain ⟨T0, hT0⟩ : ∃ T, Lib.itoa ca = T := ⟨_, rfl⟩
        have ta0 : tx (wd) ++ ⟨#[32]⟩ = tx (wd ++ [32]) := tx_append (wd) [32]
        obtain ⟨L0, hL0⟩ : ∃ L, wd ++ [32] ++ T0 = L := ⟨_, rfl⟩
        have tb0 : tx (wd ++ [32]) ++ tx T0 = tx L0 := by rw [tx_append, hL0]
        have hT0l : T0.length ≤ 21 := by rw [← hT0]; exact Lib.itoa_length_le _ HA1.out.1 HA1.out.2
        have hL0l : L0.length ≤ 300 := by rw [← hL0]; simp; omega
        have sa0 : (tx (wd)).size = wd.length := rfl
        have sb0 : (tx (wd ++ [32])).size = wd.length + 1 := by show (wd ++ [32]).length = _; simp
        have sc0 : (tx T0).size = T0.length := rfl
        have HT0 := Lib.hid hT0
        have HL0 := Lib.hid hL0
        obtain ⟨T1, hT1⟩ : ∃ T, Lib.itoa cb = T := ⟨_, rfl⟩
        have ta1 : tx (L0) ++ ⟨#[32]⟩ = tx (L0 ++ [32]) := tx_append (L0) [32]
        obtain ⟨L1, hL1⟩ : ∃ L, L0 ++ [32] ++ T1 = L := ⟨_, rfl⟩
        have tb1 : tx (L0 ++ [32]) ++ tx T1 = tx L1 := by rw [tx_append, hL1]
        have hT1l : T1.length ≤ 21 := by rw [← hT1]; exact Lib.itoa_length_le _ HA2.out.1 HA2.out.2
        have hL1l : L1.length ≤ 600 := by rw [← hL1]; simp; omega
        have sa1 : (tx (L0)).size = L0.length := rfl
        have sb1 : (tx (L0 ++ [32])).size = L0.length + 1 := by show (L0 ++ [32]).length = _; simp
        have sc1 : (tx T1).size = T1.length := rfl
        have HT1 := Lib.hid hT1
        have HL1 := Lib.hid hL1
        rw [hT0] at HNca
        rw [hT1] at HNcb
        have HStart : Hid (ln wd ([ca, cb] ++ flat (cl.take 0)) = L1) := by
          show ln wd ([ca, cb] ++ flat (cl.take 0)) = _
          simp [flat, ln, ← hL0, ← hT0, ← hL1, ← hT1]
        clear hT0 hL0
        clear hT1 hL1
        go_wp2_with fail
        refine (HNca.out _).mono ?_
        rintro e w9 ⟨rfl, rfl⟩
        go_wp2_with fail
        refine (HNcb.out _).mono ?_
        rintro e w9 ⟨rfl, rfl⟩
        go_wp2
        go_loopw [6, 8] (fun s i wr => ∃ k : Nat, k ≤ M ∧ k ≤ 65 ∧ i = .int .i64 k ∧ s = .string (tx (ln wd ([ca, cb] ++ flat (cl.take k)))) ∧ Hid (Fr Nob (w2.alloc (.cells #[.int .i64 1, .int .i64 op, .bool fr, .int .i64 2, .int .i64 lo, .int .i64 hi] 64)) wr)) (fun _ i _ => M - (intOf i).toNat)
        case atStart => exact ⟨0, Nat.zero_le _, Nat.zero_le _, rfl, by rw [HStart.out], Fr.refl _ _⟩
        case round =>
          obtain ⟨k, hk, hk65, rfl, rfl, hF⟩ := hrel
          have hFw : Fr Nob w wr := (HF2.out.alloc _).trans hF.out
          have HFw := Lib.hid hFw
          clear hFw
          by_cases hlt : k < M
          · by_cases h64 : k ≤ 64
            · have hkl : k < cl.length := by rw [HM.out]; exact hlt
              obtain ⟨ga, oa, eA, hcc⟩ := HPr.out wr hF.out (by omega)
              subst eA
              obtain ⟨c0, c1⟩ := hcc k _ (List.getElem?_eq_getElem hkl)
              have hgz := cell_lt c0
              dsimp only at hgz
              have htk : cl.take (k + 1) = cl.take k ++ [cl[k]] := (List.take_append_getElem hkl).symm
              have hlen2 : ([ca, cb] ++ flat (cl.take k)).length ≤ 200 := by rw [List.length_append, flat_length, List.length_take]; simp; omega
              have hpre : ∀ n ∈ [ca, cb] ++ flat (cl.take k), I64 n := fun n hn => HIn.out n (by rcases List.mem_append.1 hn with h | h; exact List.mem_append.2 (.inl h); exact List.mem_append.2 (.inr (by obtain ⟨z, hz, hm⟩ := List.mem_flatMap.1 h; exact List.mem_flatMap.2 ⟨z, by rw [show k = min k 65 by omega, ← List.take_take] at hz; exact List.mem_of_mem_take hz, hm⟩)))
              have hll := ln_length wd _ hpre
              have hel : I64 cl[k].1 ∧ I64 cl[k].2 := HLp.out _ (List.getElem_mem hkl)
              obtain ⟨z, hz⟩ : ∃ z, cl[k] = z := ⟨_, rfl⟩
              rw [hz] at c0 c1 htk hel
              obtain ⟨x1, x2⟩ := z
              dsimp only at c0 c1 hel
              have hpr : ln wd ([ca, cb] ++ flat (cl.take (k + 1))) = ln wd ([ca, cb] ++ flat (cl.take k)) ++ [32] ++ Lib.itoa x1 ++ [32] ++ Lib.itoa x2 := by
                rw [htk, flat_snoc, ← List.append_assoc]; exact ln_pair _ _ _ _
              obtain ⟨Ls, hLs⟩ : ∃ Ls, ln wd ([ca, cb] ++ flat (cl.take k)) = Ls := ⟨_, rfl⟩
              rw [hLs] at hll hpr ⊢
              obtain ⟨X, hX⟩ : ∃ X, Lib.itoa x1 = X := ⟨_, rfl⟩
              obtain ⟨Y, hY⟩ : ∃ Y, Lib.itoa x2 = Y := ⟨_, rfl⟩
              have HDx := Lib.hid (fun W => Digits_any x1 hel.1.1 hel.1.2 W)
              have HDy := Lib.hid (fun W => Digits_any x2 hel.2.1 hel.2.2 W)
              rw [hX] at HDx hpr
              rw [hY] at HDy hpr
              have hXl : X.length ≤ 21 := by rw [← hX]; exact Lib.itoa_length_le _ hel.1.1 hel.1.2
              have hYl : Y.length ≤ 21 := by rw [← hY]; exact Lib.itoa_length_le _ hel.2.1 hel.2.2
              obtain ⟨La, hLa⟩ : ∃ L, Ls ++ [32] ++ X = L := ⟨_, rfl⟩
              rw [hLa] at hpr
              obtain ⟨Lb, hLb⟩ : ∃ L, La ++ [32] ++ Y = L := ⟨_, rfl⟩
              rw [hLb] at hpr
              have T1 : Hid (tx Ls ++ ⟨#[32]⟩ = tx (Ls ++ [32])) := tx_append Ls [32]
              have T2 : Hid (tx (Ls ++ [32]) ++ tx X = tx La) := by show _ = _; rw [tx_append, hLa]
              have T3 : Hid (tx La ++ ⟨#[32]⟩ = tx (La ++ [32])) := tx_append La [32]
              have T4 : Hid (tx (La ++ [32]) ++ tx Y = tx Lb) := by show _ = _; rw [tx_append, hLb]
              have S1 : Hid ((tx Ls).size ≤ 10000) := by show Ls.length ≤ _; omega
              have S2 : Hid ((tx (Ls ++ [32])).size ≤ 10000) := by show (Ls ++ [32]).length ≤ _; simp; omega
              have S3 : Hid ((tx La).size ≤ 10000) := by show La.length ≤ _; rw [← hLa]; simp; omega
              have S4 : Hid ((tx (La ++ [32])).size ≤ 10000) := by show (La ++ [32]).length ≤ _; rw [← hLa]; simp; omega
              have SX : Hid ((tx X).size ≤ 100) := by show X.length ≤ _; omega
              have SY : Hid ((tx Y).size ≤ 100) := by show Y.length ≤ _; omega
              have HPr2 := Lib.hid hpr
              have C0 := Lib.hid c0
              have C1 := Lib.hid c1
              have k1 : (k : Int) < (M : Int) := by omega
              have k2 : (k : Int) ≤ 64 := by omega
              have ki : (0 : Int) ≤ (k : Int) := by omega
              clear hX hY hLa hLb hpr c0 c1 hcc htk hz hLs hel hpre
              go_wp2
              have hS : Fr Nob wr wr.drew := (Fr.refl Nob wr).drew
              refine Rg.begin' (Fr Nob wr) [] (by kernel_rfl) ?_
              refine Rg.op 0 (some 92) hS (v := ?v0v2) (a' := ?a0v2) (hy := fun wz hwz => ?h0v2) (ha := ?b0v2) (h := ?_)
              case h0v2 => (go_simp; try with_reducible rfl)
              case b0v2 => (simp only [Act.put, List.setIfInBounds_toArray, List.set_cons_zero, List.set_cons_succ]; rfl)
              refine Rg.op 1 (some 93) hS (v := (.string (tx (Ls ++ [32])))) (a' := ?a1v2) (hy := fun wz hwz => ?h1v2) (ha := ?b1v2) (h := ?_)
              case h1v2 => (have t := T1.out; have s := S1.out; go_simp; omega)
              case b1v2 => (simp only [Act.put, List.setIfInBounds_toArray, List.set_cons_zero, List.set_cons_succ]; rfl)
              refine Rg.op 2 (some 94) hS (v := ?v2v2) (a' := ?a2v2) (hy := fun wz hwz => ?h2v2) (ha := ?b2v2) (h := ?_)
              case h2v2 => (go_simp; try with_reducible rfl)
              case b2v2 => (simp only [Act.put, List.setIfInBounds_toArray, List.set_cons_zero, List.set_cons_succ]; rfl)
              refine Rg.op 3 (some 95) hS (v := ?v3v2) (a' := ?a3v2) (hy := fun wz hwz => ?h3v2) (ha := ?b3v2) (h := ?_)
              case h3v2 => (go_simp; try with_reducible rfl)
              case b3v2 => (simp only [Act.put, List.setIfInBounds_toArray, List.set_cons_zero, List.set_cons_succ]; rfl)
              refine Rg.op 4 (some 96) hS (v := ?v4v2) (a' := ?a4v2) (hy := fun wz hwz => ?h4v2) (ha := ?b4v2) (h := ?_)
              case h4v2 => (have hq := hlt; go_simp; try with_reducible rfl)
              case b4v2 => (simp only [Act.put, List.setIfInBounds_toArray, List.set_cons_zero, List.set_cons_succ]; rfl)
              refine Rg.op 5 (some 97) hS (v := ?v5v2) (a' := ?a5v2) (hy := fun wz hwz => ?h5v2) (ha := ?b5v2) (h := ?_)
              case h5v2 => (have hpp := Nat.lt_of_lt_of_le hgz hwz.size; go_simp; try with_reducible rfl)
              case b5v2 => (simp only [Act.put, List.setIfInBounds_toArray, List.set_cons_zero, List.set_cons_succ]; rfl)
              refine Rg.op 6 (some 98) hS (v := (.int .i64 x1)) (a' := ?a6v2) (hy := fun wz hwz => ?h6v2) (ha := ?b6v2) (h := ?_)
              case h6v2 => (have cx := (hwz.cell (p := ⟨ga, oa + k * 2, none⟩) hgz (fun h => h)).trans C0.out; have hpp := Nat.lt_of_lt_of_le hgz hwz.size; go_simp; try with_reducible rfl)
              case b6v2 => (simp only [Act.put, List.setIfInBounds_toArray, List.set_cons_zero, List.set_cons_succ]; rfl)
              refine Rg.op 10 (some 102) hS (v := ?v10v2) (a' := ?a10v2) (hy := fun wz hwz => ?h10v2) (ha := ?b10v2) (h := ?_)
              case h10v2 => (go_simp; try with_reducible rfl)
              case b10v2 => (simp only [Act.put, List.setIfInBounds_toArray, List.set_cons_zero, List.set_cons_succ]; rfl)
              refine Rg.op 11 (some 103) hS (v := ?v11v2) (a' := ?a11v2) (hy := fun wz hwz => ?h11v2) (ha := ?b11v2) (h := ?_)
              case h11v2 => (go_simp; try with_reducible rfl)
              case b11v2 => (simp only [Act.put, List.setIfInBounds_toArray, List.set_cons_zero, List.set_cons_succ]; rfl)
              refine Rg.op 12 (some 104) hS (v := ?v12v2) (a' := ?a12v2) (hy := fun wz hwz => ?h12v2) (ha := ?b12v2) (h := ?_)
              case h12v2 => (have hq := hlt; go_simp; try with_reducible rfl)
              case b12v2 => (simp only [Act.put, List.setIfInBounds_toArray, List.set_cons_zero, List.set_cons_succ]; rfl)
              refine Rg.op 13 (some 105) hS (v := ?v13v2) (a' := ?a13v2) (hy := fun wz hwz => ?h13v2) (ha := ?b13v2) (h := ?_)
              case h13v2 => (have hpp := Nat.lt_of_lt_of_le hgz hwz.size; go_simp; try with_reducible rfl)
              case b13v2 => (simp only [Act.put, List.setIfInBounds_toArray, List.set_cons_zero, List.set_cons_succ]; rfl)
              refine Rg.op 14 (some 106) hS (v := (.int .i64 x2)) (a' := ?a14v2) (hy := fun wz hwz => ?h14v2) (ha := ?b14v2) (h := ?_)
              case h14v2 => (have cx := (hwz.cell (p := ⟨ga, oa + k * 2 + 1, none⟩) hgz (fun h => h)).trans C1.out; have hpp := Nat.lt_of_lt_of_le hgz hwz.size; go_simp; try with_reducible rfl)
              case b14v2 => (simp only [Act.put, List.setIfInBounds_toArray, List.set_cons_zero, List.set_cons_succ]; rfl)
              refine Rg.call 7 (some 99) (hrun := ?h7v2) (hcall := HDx.out _) (h := ?_)
              case h7v2 => (go_simp)
              rintro e w9 ⟨rfl, rfl⟩
              refine ⟨_, ?a7v2, rfl, ?b7v2, (fun _ => hS), ?_⟩
              case b7v2 => (simp only [Act.put, List.setIfInBounds_toArray, List.set_cons_zero, List.set_cons_succ]; rfl)
              refine Rg.op 8 (some 100) hS (v := (.string (tx La))) (a' := ?a8v2) (hy := fun wz hwz => ?h8v2) (ha := ?b8v2) (h := ?_)
              case h8v2 => (have t := T2.out; have s := S2.out; have s2 := SX.out; go_simp; omega)
              case b8v2 => (simp only [Act.put, List.setIfInBounds_toArray, List.set_cons_zero, List.set_cons_succ]; rfl)
              refine Rg.op 9 (some 101) hS (v := (.string (tx (La ++ [32])))) (a' := ?a9v2) (hy := fun wz hwz => ?h9v2) (ha := ?b9v2) (h := ?_)
              case h9v2 => (have t := T3.out; have s := S3.out; go_simp; omega)
              case b9v2 => (simp only [Act.put, List.setIfInBounds_toArray, List.set_cons_zero, List.set_cons_succ]; rfl)
              refine Rg.call 15 (some 107) (hrun := ?h15v2) (hcall := HDy.out _) (h := ?_)
              case h15v2 => (go_simp)
              rintro e w9 ⟨rfl, rfl⟩
              refine ⟨_, ?a15v2, rfl, ?b15v2, (fun _ => hS), ?_⟩
              case b15v2 => (simp only [Act.put, List.setIfInBounds_toArray, List.set_cons_zero, List.set_cons_succ]; rfl)
              refine Rg.op 16 (some 108) hS (v := (.string (tx Lb))) (a' := ?a16v2) (hy := fun wz hwz => ?h16v2) (ha := ?b16v2) (h := ?_)
              case h16v2 => (have t := T4.out; have s := S4.out; have s2 := SY.out; go_simp; omega)
              case b16v2 => (simp only [Act.put, List.setIfInBounds_toArray, List.set_cons_zero, List.set_cons_succ]; rfl)
              refine Rg.op 17 (some 6) hS (v := ?v17v2) (a' := ?a17v2) (hy := fun wz hwz => ?h17v2) (ha := ?b17v2) (h := ?_)
              case h17v2 => (go_simp; try with_reducible rfl)
              case b17v2 => (simp only [Act.put, List.setIfInBounds_toArray, List.set_cons_zero, List.set_cons_succ]; rfl)
              refine Rg.done _ (h := ?_)
              go_wp2
              go_roundw
              case rel => exact ⟨k + 1, by omega, by omega, by go_num, by rw [HPr2.out], hF.out.trans hS⟩
              case measure => simp [intOf]; omega
            · have k1 : (k : Int) < (M : Int) := by omega
              have k2 : ¬ (k : Int) ≤ 64 := by omega
              obtain rfl : k = 65 := by omega
              go_wp2
              go_ret
              exact ⟨by rw [HRl.out]; rfl, HFw.out⟩
          · obtain rfl : k = M := by omega
            have he : cl.take 65 = cl.take k := by rw [List.take_of_length_le (by rw [HM.out]; omega), List.take_of_length_le (by rw [HM.out]; exact Nat.le_refl _)]
            have hRk := HRl.out
            rw [he] at hRk
            have HRk := Lib.hid hRk
            clear hRk he
            go_wp2
            go_ret
            exact ⟨by rw [HRk.out]; rfl, HFw.out⟩
    · have hkb : (kd == 1) = false := by simpa using hk1
      have hnp : xn = 0 ∨ xp = 0 := HNp.out hk1
      have hxn1 : xn ≤ 1 := by rcases HKk.out with h | h | h; exact absurd h.1 hk1; exact absurd h.1 hk1; exact h.2.1
      have hxp2 : xp ≤ 2 := by rcases HKk.out with h | h | h; exact absurd h.1 hk1; exact absurd h.1 hk1; exact h.2.2
      have hlo : lo = xp := by rw [← HLo.out]; unfold Shp.lo; dsimp only; rw [if_neg (by omega)]
      subst hlo
      have HK1 := Lib.hid hk1
      clear HKk HLo HNp hk1
      have hcase : (xn = 1 ∧ lo = 0) ∨ (xn = 0 ∧ lo = 0) ∨ (xn = 0 ∧ lo = 1) ∨ (xn = 0 ∧ lo = 2) := by omega
      rcases hcase with ⟨rfl, rfl⟩ | ⟨rfl, rfl⟩ | ⟨rfl, rfl⟩ | ⟨rfl, rfl⟩
      · have HNums : Hid (numsR ⟨wd, kd, op, fr, 1, 0⟩ ⟨kd, op, ca, cb, fr, cl, (p1, p2), (q1, q2), cn⟩ = [cn] ++ flat (cl.take 65)) := by
          show numsR _ _ = _
          unfold numsR
          dsimp only
          rw [if_neg HK1.out, if_pos (.inr rfl)]
          rfl
        have HRl : Hid (R = tx (ln wd ([cn] ++ flat (cl.take 65)))) := by show R = _; rw [← HR2.out, HNums.out]
        have HIn : Hid (∀ n ∈ [cn] ++ flat (cl.take 65), I64 n) := by
          intro n hn
          rcases List.mem_append.1 hn with h | h
          · simp only [List.mem_cons, List.not_mem_nil, or_false] at h
            subst h
            exact HA3.out
          · exact flat_in (fun z hz => HLp.out z (List.mem_of_mem_take hz)) n h
        have HPr : Hid (∀ V, Fr Nob (w2.alloc (.cells #[.int .i64 kd, .int .i64 op, .bool fr, .int .i64 1, .int .i64 0, .int .i64 hi] 64)) V → PtsIn V A cl) := fun V hV => ((HPt.out.new HF2.out).new ((Fr.refl Nob w2).alloc _)).new hV
        obtain ⟨T0, hT0⟩ : ∃ T, Lib.itoa cn = T := ⟨_, rfl⟩
        have ta0 : tx (wd) ++ ⟨#[32]⟩ = tx (wd ++ [32]) := tx_append (wd) [32]
        obtain ⟨L0, hL0⟩ : ∃ L, wd ++ [32] ++ T0 = L := ⟨_, rfl⟩
        have tb0 : tx (wd ++ [32]) ++ tx T0 = tx L0 := by rw [tx_append, hL0]
        have hT0l : T0.length ≤ 21 := by rw [← hT0]; exact Lib.itoa_length_le _ HA3.out.1 HA3.out.2
        have hL0l : L0.length ≤ 300 := by rw [← hL0]; simp; omega
        have sa0 : (tx (wd)).size = wd.length := rfl
        have sb0 : (tx (wd ++ [32])).size = wd.length + 1 := by show (wd ++ [32]).length = _; simp
        have sc0 : (tx T0).size = T0.length := rfl
        have HT0 := Lib.hid hT0
        have HL0 := Lib.hid hL0
        rw [hT0] at HNcn
        have HStart : Hid (ln wd ([cn] ++ flat (cl.take 0)) = L0) := by
          show ln wd ([cn] ++ flat (cl.take 0)) = _
          simp [flat, ln, ← hL0, ← hT0]
        clear hT0 hL0
        go_wp2_with fail
        refine (HNcn.out _).mono ?_
        rintro e w9 ⟨rfl, rfl⟩
        go_wp2
        go_loopw [6, 8] (fun s i wr => ∃ k : Nat, k ≤ M ∧ k ≤ 65 ∧ i = .int .i64 k ∧ s = .string (tx (ln wd ([cn] ++ flat (cl.take k)))) ∧ Hid (Fr Nob (w2.alloc (.cells #[.int .i64 kd, .int .i64 op, .bool fr, .int .i64 1, .int .i64 0, .int .i64 hi] 64)) wr)) (fun _ i _ => M - (intOf i).toNat)
        case atStart => exact ⟨0, Nat.zero_le _, Nat.zero_le _, rfl, by rw [HStart.out], Fr.refl _ _⟩
        case round =>
          obtain ⟨k, hk, hk65, rfl, rfl, hF⟩ := hrel
          have hFw : Fr Nob w wr := (HF2.out.alloc _).trans hF.out
          have HFw := Lib.hid hFw
          clear hFw
          by_cases hlt : k < M
          · by_cases h64 : k ≤ 64
            · have hkl : k < cl.length := by rw [HM.out]; exact hlt
              obtain ⟨ga, oa, eA, hcc⟩ := HPr.out wr hF.out (by omega)
              subst eA
              obtain ⟨c0, c1⟩ := hcc k _ (List.getElem?_eq_getElem hkl)
              have hgz := cell_lt c0
              dsimp only at hgz
              have htk : cl.take (k + 1) = cl.take k ++ [cl[k]] := (List.take_append_getElem hkl).symm
              have hlen2 : ([cn] ++ flat (cl.take k)).length ≤ 200 := by rw [List.length_append, flat_length, List.length_take]; simp; omega
              have hpre : ∀ n ∈ [cn] ++ flat (cl.take k), I64 n := fun n hn => HIn.out n (by rcases List.mem_append.1 hn with h | h; exact List.mem_append.2 (.inl h); exact List.mem_append.2 (.inr (by obtain ⟨z, hz, hm⟩ := List.mem_flatMap.1 h; exact List.mem_flatMap.2 ⟨z, by rw [show k = min k 65 by omega, ← List.take_take] at hz; exact List.mem_of_mem_take hz, hm⟩)))
              have hll := ln_length wd _ hpre
              have hel : I64 cl[k].1 ∧ I64 cl[k].2 := HLp.out _ (List.getElem_mem hkl)
              obtain ⟨z, hz⟩ : ∃ z, cl[k] = z := ⟨_, rfl⟩
              rw [hz] at c0 c1 htk hel
              obtain ⟨x1, x2⟩ := z
              dsimp only at c0 c1 hel
              have hpr : ln wd ([cn] ++ flat (cl.take (k + 1))) = ln wd ([cn] ++ flat (cl.take k)) ++ [32] ++ Lib.itoa x1 ++ [32] ++ Lib.itoa x2 := by
                rw [htk, flat_snoc, ← List.append_assoc]; exact ln_pair _ _ _ _
              obtain ⟨Ls, hLs⟩ : ∃ Ls, ln wd ([cn] ++ flat (cl.take k)) = Ls := ⟨_, rfl⟩
              rw [hLs] at hll hpr ⊢
              obtain ⟨X, hX⟩ : ∃ X, Lib.itoa x1 = X := ⟨_, rfl⟩
              obtain ⟨Y, hY⟩ : ∃ Y, Lib.itoa x2 = Y := ⟨_, rfl⟩
              have HDx := Lib.hid (fun W => Digits_any x1 hel.1.1 hel.1.2 W)
              have HDy := Lib.hid (fun W => Digits_any x2 hel.2.1 hel.2.2 W)
              rw [hX] at HDx hpr
              rw [hY] at HDy hpr
              have hXl : X.length ≤ 21 := by rw [← hX]; exact Lib.itoa_length_le _ hel.1.1 hel.1.2
              have hYl : Y.length ≤ 21 := by rw [← hY]; exact Lib.itoa_length_le _ hel.2.1 hel.2.2
              obtain ⟨La, hLa⟩ : ∃ L, Ls ++ [32] ++ X = L := ⟨_, rfl⟩
              rw [hLa] at hpr
              obtain ⟨Lb, hLb⟩ : ∃ L, La ++ [32] ++ Y = L := ⟨_, rfl⟩
              rw [hLb] at hpr
              have T1 : Hid (tx Ls ++ ⟨#[32]⟩ = tx (Ls ++ [32])) := tx_append Ls [32]
              have T2 : Hid (tx (Ls ++ [32]) ++ tx X = tx La) := by show _ = _; rw [tx_append, hLa]
              have T3 : Hid (tx La ++ ⟨#[32]⟩ = tx (La ++ [32])) := tx_append La [32]
              have T4 : Hid (tx (La ++ [32]) ++ tx Y = tx Lb) := by show _ = _; rw [tx_append, hLb]
              have S1 : Hid ((tx Ls).size ≤ 10000) := by show Ls.length ≤ _; omega
              have S2 : Hid ((tx (Ls ++ [32])).size ≤ 10000) := by show (Ls ++ [32]).length ≤ _; simp; omega
              have S3 : Hid ((tx La).size ≤ 10000) := by show La.length ≤ _; rw [← hLa]; simp; omega
              have S4 : Hid ((tx (La ++ [32])).size ≤ 10000) := by show (La ++ [32]).length ≤ _; rw [← hLa]; simp; omega
              have SX : Hid ((tx X).size ≤ 100) := by show X.length ≤ _; omega
              have SY : Hid ((tx Y).size ≤ 100) := by show Y.length ≤ _; omega
              have HPr2 := Lib.hid hpr
              have C0 := Lib.hid c0
              have C1 := Lib.hid c1
              have k1 : (k : Int) < (M : Int) := by omega
              have k2 : (k : Int) ≤ 64 := by omega
              have ki : (0 : Int) ≤ (k : Int) := by omega
              clear hX hY hLa hLb hpr c0 c1 hcc htk hz hLs hel hpre
              go_wp2
              have hS : Fr Nob wr wr.drew := (Fr.refl Nob wr).drew
              refine Rg.begin' (Fr Nob wr) [] (by kernel_rfl) ?_
              refine Rg.op 0 (some 92) hS (v := ?v0v3) (a' := ?a0v3) (hy := fun wz hwz => ?h0v3) (ha := ?b0v3) (h := ?_)
              case h0v3 => (go_simp; try with_reducible rfl)
              case b0v3 => (simp only [Act.put, List.setIfInBounds_toArray, List.set_cons_zero, List.set_cons_succ]; rfl)
              refine Rg.op 1 (some 93) hS (v := (.string (tx (Ls ++ [32])))) (a' := ?a1v3) (hy := fun wz hwz => ?h1v3) (ha := ?b1v3) (h := ?_)
              case h1v3 => (have t := T1.out; have s := S1.out; go_simp; omega)
              case b1v3 => (simp only [Act.put, List.setIfInBounds_toArray, List.set_cons_zero, List.set_cons_succ]; rfl)
              refine Rg.op 2 (some 94) hS (v := ?v2v3) (a' := ?a2v3) (hy := fun wz hwz => ?h2v3) (ha := ?b2v3) (h := ?_)
              case h2v3 => (go_simp; try with_reducible rfl)
              case b2v3 => (simp only [Act.put, List.setIfInBounds_toArray, List.set_cons_zero, List.set_cons_succ]; rfl)
              refine Rg.op 3 (some 95) hS (v := ?v3v3) (a' := ?a3v3) (hy := fun wz hwz => ?h3v3) (ha := ?b3v3) (h := ?_)
              case h3v3 => (go_simp; try with_reducible rfl)
              case b3v3 => (simp only [Act.put, List.setIfInBounds_toArray, List.set_cons_zero, List.set_cons_succ]; rfl)
              refine Rg.op 4 (some 96) hS (v := ?v4v3) (a' := ?a4v3) (hy := fun wz hwz => ?h4v3) (ha := ?b4v3) (h := ?_)
              case h4v3 => (have hq := hlt; go_simp; try with_reducible rfl)
              case b4v3 => (simp only [Act.put, List.setIfInBounds_toArray, List.set_cons_zero, List.set_cons_succ]; rfl)
              refine Rg.op 5 (some 97) hS (v := ?v5v3) (a' := ?a5v3) (hy := fun wz hwz => ?h5v3) (ha := ?b5v3) (h := ?_)
              case h5v3 => (have hpp := Nat.lt_of_lt_of_le hgz hwz.size; go_simp; try with_reducible rfl)
              case b5v3 => (simp only [Act.put, List.setIfInBounds_toArray, List.set_cons_zero, List.set_cons_succ]; rfl)
              refine Rg.op 6 (some 98) hS (v := (.int .i64 x1)) (a' := ?a6v3) (hy := fun wz hwz => ?h6v3) (ha := ?b6v3) (h := ?_)
              case h6v3 => (have cx := (hwz.cell (p := ⟨ga, oa + k * 2, none⟩) hgz (fun h => h)).trans C0.out; have hpp := Nat.lt_of_lt_of_le hgz hwz.size; go_simp; try with_reducible rfl)
              case b6v3 => (simp only [Act.put, List.setIfInBounds_toArray, List.set_cons_zero, List.set_cons_succ]; rfl)
              refine Rg.op 10 (some 102) hS (v := ?v10v3) (a' := ?a10v3) (hy := fun wz hwz => ?h10v3) (ha := ?b10v3) (h := ?_)
              case h10v3 => (go_simp; try with_reducible rfl)
              case b10v3 => (simp only [Act.put, List.setIfInBounds_toArray, List.set_cons_zero, List.set_cons_succ]; rfl)
              refine Rg.op 11 (some 103) hS (v := ?v11v3) (a' := ?a11v3) (hy := fun wz hwz => ?h11v3) (ha := ?b11v3) (h := ?_)
              case h11v3 => (go_simp; try with_reducible rfl)
              case b11v3 => (simp only [Act.put, List.setIfInBounds_toArray, List.set_cons_zero, List.set_cons_succ]; rfl)
              refine Rg.op 12 (some 104) hS (v := ?v12v3) (a' := ?a12v3) (hy := fun wz hwz => ?h12v3) (ha := ?b12v3) (h := ?_)
              case h12v3 => (have hq := hlt; go_simp; try with_reducible rfl)
              case b12v3 => (simp only [Act.put, List.setIfInBounds_toArray, List.set_cons_zero, List.set_cons_succ]; rfl)
              refine Rg.op 13 (some 105) hS (v := ?v13v3) (a' := ?a13v3) (hy := fun wz hwz => ?h13v3) (ha := ?b13v3) (h := ?_)
              case h13v3 => (have hpp := Nat.lt_of_lt_of_le hgz hwz.size; go_simp; try with_reducible rfl)
              case b13v3 => (simp only [Act.put, List.setIfInBounds_toArray, List.set_cons_zero, List.set_cons_succ]; rfl)
              refine Rg.op 14 (some 106) hS (v := (.int .i64 x2)) (a' := ?a14v3) (hy := fun wz hwz => ?h14v3) (ha := ?b14v3) (h := ?_)
              case h14v3 => (have cx := (hwz.cell (p := ⟨ga, oa + k * 2 + 1, none⟩) hgz (fun h => h)).trans C1.out; have hpp := Nat.lt_of_lt_of_le hgz hwz.size; go_simp; try with_reducible rfl)
              case b14v3 => (simp only [Act.put, List.setIfInBounds_toArray, List.set_cons_zero, List.set_cons_succ]; rfl)
              refine Rg.call 7 (some 99) (hrun := ?h7v3) (hcall := HDx.out _) (h := ?_)
              case h7v3 => (go_simp)
              rintro e w9 ⟨rfl, rfl⟩
              refine ⟨_, ?a7v3, rfl, ?b7v3, (fun _ => hS), ?_⟩
              case b7v3 => (simp only [Act.put, List.setIfInBounds_toArray, List.set_cons_zero, List.set_cons_succ]; rfl)
              refine Rg.op 8 (some 100) hS (v := (.string (tx La))) (a' := ?a8v3) (hy := fun wz hwz => ?h8v3) (ha := ?b8v3) (h := ?_)
              case h8v3 => (have t := T2.out; have s := S2.out; have s2 := SX.out; go_simp; omega)
              case b8v3 => (simp only [Act.put, List.setIfInBounds_toArray, List.set_cons_zero, List.set_cons_succ]; rfl)
              refine Rg.op 9 (some 101) hS (v := (.string (tx (La ++ [32])))) (a' := ?a9v3) (hy := fun wz hwz => ?h9v3) (ha := ?b9v3) (h := ?_)
              case h9v3 => (have t := T3.out; have s := S3.out; go_simp; omega)
              case b9v3 => (simp only [Act.put, List.setIfInBounds_toArray, List.set_cons_zero, List.set_cons_succ]; rfl)
              refine Rg.call 15 (some 107) (hrun := ?h15v3) (hcall := HDy.out _) (h := ?_)
              case h15v3 => (go_simp)
              rintro e w9 ⟨rfl, rfl⟩
              refine ⟨_, ?a15v3, rfl, ?b15v3, (fun _ => hS), ?_⟩
              case b15v3 => (simp only [Act.put, List.setIfInBounds_toArray, List.set_cons_zero, List.set_cons_succ]; rfl)
              refine Rg.op 16 (some 108) hS (v := (.string (tx Lb))) (a' := ?a16v3) (hy := fun wz hwz => ?h16v3) (ha := ?b16v3) (h := ?_)
              case h16v3 => (have t := T4.out; have s := S4.out; have s2 := SY.out; go_simp; omega)
              case b16v3 => (simp only [Act.put, List.setIfInBounds_toArray, List.set_cons_zero, List.set_cons_succ]; rfl)
              refine Rg.op 17 (some 6) hS (v := ?v17v3) (a' := ?a17v3) (hy := fun wz hwz => ?h17v3) (ha := ?b17v3) (h := ?_)
              case h17v3 => (go_simp; try with_reducible rfl)
              case b17v3 => (simp only [Act.put, List.setIfInBounds_toArray, List.set_cons_zero, List.set_cons_succ]; rfl)
              refine Rg.done _ (h := ?_)
              go_wp2
              go_roundw
              case rel => exact ⟨k + 1, by omega, by omega, by go_num, by rw [HPr2.out], hF.out.trans hS⟩
              case measure => simp [intOf]; omega
            · have k1 : (k : Int) < (M : Int) := by omega
              have k2 : ¬ (k : Int) ≤ 64 := by omega
              obtain rfl : k = 65 := by omega
              go_wp2
              go_ret
              exact ⟨by rw [HRl.out]; rfl, HFw.out⟩
          · obtain rfl : k = M := by omega
            have he : cl.take 65 = cl.take k := by rw [List.take_of_length_le (by rw [HM.out]; omega), List.take_of_length_le (by rw [HM.out]; exact Nat.le_refl _)]
            have hRk := HRl.out
            rw [he] at hRk
            have HRk := Lib.hid hRk
            clear hRk he
            go_wp2
            go_ret
            exact ⟨by rw [HRk.out]; rfl, HFw.out⟩
      · have HNums : Hid (numsR ⟨wd, kd, op, fr, 0, 0⟩ ⟨kd, op, ca, cb, fr, cl, (p1, p2), (q1, q2), cn⟩ = [] ++ flat (cl.take 65)) := by
          show numsR _ _ = _
          unfold numsR
          dsimp only
          rw [if_neg HK1.out, if_pos (.inr rfl)]
          rfl
        have HRl : Hid (R = tx (ln wd ([] ++ flat (cl.take 65)))) := by show R = _; rw [← HR2.out, HNums.out]
        have HIn : Hid (∀ n ∈ [] ++ flat (cl.take 65), I64 n) := by
          intro n hn
          rcases List.mem_append.1 hn with h | h
          · simp only [List.mem_cons, List.not_mem_nil, or_false] at h
            try cases h
          · exact flat_in (fun z hz => HLp.out z (List.mem_of_mem_take hz)) n h
        have HPr : Hid (∀ V, Fr Nob (w2.alloc (.cells #[.int .i64 kd, .int .i64 op, .bool fr, .int .i64 0, .int .i64 0, .int .i64 hi] 64)) V → PtsIn V A cl) := fun V hV => ((HPt.out.new HF2.out).new ((Fr.refl Nob w2).alloc _)).new hV
        have HStart : Hid (ln wd ([] ++ flat (cl.take 0)) = wd) := by
          show ln wd ([] ++ flat (cl.take 0)) = _
          simp [flat, ln]
        go_wp2
        go_loopw [6, 8] (fun s i wr => ∃ k : Nat, k ≤ M ∧ k ≤ 65 ∧ i = .int .i64 k ∧ s = .string (tx (ln wd ([] ++ flat (cl.take k)))) ∧ Hid (Fr Nob (w2.alloc (.cells #[.int .i64 kd, .int .i64 op, .bool fr, .int .i64 0, .int .i64 0, .int .i64 hi] 64)) wr)) (fun _ i _ => M - (intOf i).toNat)
        case atStart => exact ⟨0, Nat.zero_le _, Nat.zero_le _, rfl, by rw [HStart.out], Fr.refl _ _⟩
        case round =>
          obtain ⟨k, hk, hk65, rfl, rfl, hF⟩ := hrel
          have hFw : Fr Nob w wr := (HF2.out.alloc _).trans hF.out
          have HFw := Lib.hid hFw
          clear hFw
          by_cases hlt : k < M
          · by_cases h64 : k ≤ 64
            · have hkl : k < cl.length := by rw [HM.out]; exact hlt
              obtain ⟨ga, oa, eA, hcc⟩ := HPr.out wr hF.out (by omega)
              subst eA
              obtain ⟨c0, c1⟩ := hcc k _ (List.getElem?_eq_getElem hkl)
              have hgz := cell_lt c0
              dsimp only at hgz
              have htk : cl.take (k + 1) = cl.take k ++ [cl[k]] := (List.take_append_getElem hkl).symm
              have hlen2 : ([] ++ flat (cl.take k)).length ≤ 200 := by rw [List.length_append, flat_length, List.length_take]; simp; omega
              have hpre : ∀ n ∈ [] ++ flat (cl.take k), I64 n := fun n hn => HIn.out n (by rcases List.mem_append.1 hn with h | h; exact List.mem_append.2 (.inl h); exact List.mem_append.2 (.inr (by obtain ⟨z, hz, hm⟩ := List.mem_flatMap.1 h; exact List.mem_flatMap.2 ⟨z, by rw [show k = min k 65 by omega, ← List.take_take] at hz; exact List.mem_of_mem_take hz, hm⟩)))
              have hll := ln_length wd _ hpre
              have hel : I64 cl[k].1 ∧ I64 cl[k].2 := HLp.out _ (List.getElem_mem hkl)
              obtain ⟨z, hz⟩ : ∃ z, cl[k] = z := ⟨_, rfl⟩
              rw [hz] at c0 c1 htk hel
              obtain ⟨x1, x2⟩ := z
              dsimp only at c0 c1 hel
              have hpr : ln wd ([] ++ flat (cl.take (k + 1))) = ln wd ([] ++ flat (cl.take k)) ++ [32] ++ Lib.itoa x1 ++ [32] ++ Lib.itoa x2 := by
                rw [htk, flat_snoc, ← List.append_assoc]; exact ln_pair _ _ _ _
              obtain ⟨Ls, hLs⟩ : ∃ Ls, ln wd ([] ++ flat (cl.take k)) = Ls := ⟨_, rfl⟩
              rw [hLs] at hll hpr ⊢
              obtain ⟨X, hX⟩ : ∃ X, Lib.itoa x1 = X := ⟨_, rfl⟩
              obtain ⟨Y, hY⟩ : ∃ Y, Lib.itoa x2 = Y := ⟨_, rfl⟩
              have HDx := Lib.hid (fun W => Digits_any x1 hel.1.1 hel.1.2 W)
              have HDy := Lib.hid (fun W => Digits_any x2 hel.2.1 hel.2.2 W)
              rw [hX] at HDx hpr
              rw [hY] at HDy hpr
              have hXl : X.length ≤ 21 := by rw [← hX]; exact Lib.itoa_length_le _ hel.1.1 hel.1.2
              have hYl : Y.length ≤ 21 := by rw [← hY]; exact Lib.itoa_length_le _ hel.2.1 hel.2.2
              obtain ⟨La, hLa⟩ : ∃ L, Ls ++ [32] ++ X = L := ⟨_, rfl⟩
              rw [hLa] at hpr
              obtain ⟨Lb, hLb⟩ : ∃ L, La ++ [32] ++ Y = L := ⟨_, rfl⟩
              rw [hLb] at hpr
              have T1 : Hid (tx Ls ++ ⟨#[32]⟩ = tx (Ls ++ [32])) := tx_append Ls [32]
              have T2 : Hid (tx (Ls ++ [32]) ++ tx X = tx La) := by show _ = _; rw [tx_append, hLa]
              have T3 : Hid (tx La ++ ⟨#[32]⟩ = tx (La ++ [32])) := tx_append La [32]
              have T4 : Hid (tx (La ++ [32]) ++ tx Y = tx Lb) := by show _ = _; rw [tx_append, hLb]
              have S1 : Hid ((tx Ls).size ≤ 10000) := by show Ls.length ≤ _; omega
              have S2 : Hid ((tx (Ls ++ [32])).size ≤ 10000) := by show (Ls ++ [32]).length ≤ _; simp; omega
              have S3 : Hid ((tx La).size ≤ 10000) := by show La.length ≤ _; rw [← hLa]; simp; omega
              have S4 : Hid ((tx (La ++ [32])).size ≤ 10000) := by show (La ++ [32]).length ≤ _; rw [← hLa]; simp; omega
              have SX : Hid ((tx X).size ≤ 100) := by show X.length ≤ _; omega
              have SY : Hid ((tx Y).size ≤ 100) := by show Y.length ≤ _; omega
              have HPr2 := Lib.hid hpr
              have C0 := Lib.hid c0
              have C1 := Lib.hid c1
              have k1 : (k : Int) < (M : Int) := by omega
              have k2 : (k : Int) ≤ 64 := by omega
              have ki : (0 : Int) ≤ (k : Int) := by omega
              clear hX hY hLa hLb hpr c0 c1 hcc htk hz hLs hel hpre
              go_wp2
              have hS : Fr Nob wr wr.drew := (Fr.refl Nob wr).drew
              refine Rg.begin' (Fr Nob wr) [] (by kernel_rfl) ?_
              refine Rg.op 0 (some 92) hS (v := ?v0v4) (a' := ?a0v4) (hy := fun wz hwz => ?h0v4) (ha := ?b0v4) (h := ?_)
              case h0v4 => (go_simp; try with_reducible rfl)
              case b0v4 => (simp only [Act.put, List.setIfInBounds_toArray, List.set_cons_zero, List.set_cons_succ]; rfl)
              refine Rg.op 1 (some 93) hS (v := (.string (tx (Ls ++ [32])))) (a' := ?a1v4) (hy := fun wz hwz => ?h1v4) (ha := ?b1v4) (h := ?_)
              case h1v4 => (have t := T1.out; have s := S1.out; go_simp; omega)
              case b1v4 => (simp only [Act.put, List.setIfInBounds_toArray, List.set_cons_zero, List.set_cons_succ]; rfl)
              refine Rg.op 2 (some 94) hS (v := ?v2v4) (a' := ?a2v4) (hy := fun wz hwz => ?h2v4) (ha := ?b2v4) (h := ?_)
              case h2v4 => (go_simp; try with_reducible rfl)
              case b2v4 => (simp only [Act.put, List.setIfInBounds_toArray, List.set_cons_zero, List.set_cons_succ]; rfl)
              refine Rg.op 3 (some 95) hS (v := ?v3v4) (a' := ?a3v4) (hy := fun wz hwz => ?h3v4) (ha := ?b3v4) (h := ?_)
              case h3v4 => (go_simp; try with_reducible rfl)
              case b3v4 => (simp only [Act.put, List.setIfInBounds_toArray, List.set_cons_zero, List.set_cons_succ]; rfl)
              refine Rg.op 4 (some 96) hS (v := ?v4v4) (a' := ?a4v4) (hy := fun wz hwz => ?h4v4) (ha := ?b4v4) (h := ?_)
              case h4v4 => (have hq := hlt; go_simp; try with_reducible rfl)
              case b4v4 => (simp only [Act.put, List.setIfInBounds_toArray, List.set_cons_zero, List.set_cons_succ]; rfl)
              refine Rg.op 5 (some 97) hS (v := ?v5v4) (a' := ?a5v4) (hy := fun wz hwz => ?h5v4) (ha := ?b5v4) (h := ?_)
              case h5v4 => (have hpp := Nat.lt_of_lt_of_le hgz hwz.size; go_simp; try with_reducible rfl)
              case b5v4 => (simp only [Act.put, List.setIfInBounds_toArray, List.set_cons_zero, List.set_cons_succ]; rfl)
              refine Rg.op 6 (some 98) hS (v := (.int .i64 x1)) (a' := ?a6v4) (hy := fun wz hwz => ?h6v4) (ha := ?b6v4) (h := ?_)
              case h6v4 => (have cx := (hwz.cell (p := ⟨ga, oa + k * 2, none⟩) hgz (fun h => h)).trans C0.out; have hpp := Nat.lt_of_lt_of_le hgz hwz.size; go_simp; try with_reducible rfl)
              case b6v4 => (simp only [Act.put, List.setIfInBounds_toArray, List.set_cons_zero, List.set_cons_succ]; rfl)
              refine Rg.op 10 (some 102) hS (v := ?v10v4) (a' := ?a10v4) (hy := fun wz hwz => ?h10v4) (ha := ?b10v4) (h := ?_)
              case h10v4 => (go_simp; try with_reducible rfl)
              case b10v4 => (simp only [Act.put, List.setIfInBounds_toArray, List.set_cons_zero, List.set_cons_succ]; rfl)
              refine Rg.op 11 (some 103) hS (v := ?v11v4) (a' := ?a11v4) (hy := fun wz hwz => ?h11v4) (ha := ?b11v4) (h := ?_)
              case h11v4 => (go_simp; try with_reducible rfl)
              case b11v4 => (simp only [Act.put, List.setIfInBounds_toArray, List.set_cons_zero, List.set_cons_succ]; rfl)
              refine Rg.op 12 (some 104) hS (v := ?v12v4) (a' := ?a12v4) (hy := fun wz hwz => ?h12v4) (ha := ?b12v4) (h := ?_)
              case h12v4 => (have hq := hlt; go_simp; try with_reducible rfl)
              case b12v4 => (simp only [Act.put, List.setIfInBounds_toArray, List.set_cons_zero, List.set_cons_succ]; rfl)
              refine Rg.op 13 (some 105) hS (v := ?v13v4) (a' := ?a13v4) (hy := fun wz hwz => ?h13v4) (ha := ?b13v4) (h := ?_)
              case h13v4 => (have hpp := Nat.lt_of_lt_of_le hgz hwz.size; go_simp; try with_reducible rfl)
              case b13v4 => (simp only [Act.put, List.setIfInBounds_toArray, List.set_cons_zero, List.set_cons_succ]; rfl)
              refine Rg.op 14 (some 106) hS (v := (.int .i64 x2)) (a' := ?a14v4) (hy := fun wz hwz => ?h14v4) (ha := ?b14v4) (h := ?_)
              case h14v4 => (have cx := (hwz.cell (p := ⟨ga, oa + k * 2 + 1, none⟩) hgz (fun h => h)).trans C1.out; have hpp := Nat.lt_of_lt_of_le hgz hwz.size; go_simp; try with_reducible rfl)
              case b14v4 => (simp only [Act.put, List.setIfInBounds_toArray, List.set_cons_zero, List.set_cons_succ]; rfl)
              refine Rg.call 7 (some 99) (hrun := ?h7v4) (hcall := HDx.out _) (h := ?_)
              case h7v4 => (go_simp)
              rintro e w9 ⟨rfl, rfl⟩
              refine ⟨_, ?a7v4, rfl, ?b7v4, (fun _ => hS), ?_⟩
              case b7v4 => (simp only [Act.put, List.setIfInBounds_toArray, List.set_cons_zero, List.set_cons_succ]; rfl)
              refine Rg.op 8 (some 100) hS (v := (.string (tx La))) (a' := ?a8v4) (hy := fun wz hwz => ?h8v4) (ha := ?b8v4) (h := ?_)
              case h8v4 => (have t := T2.out; have s := S2.out; have s2 := SX.out; go_simp; omega)
              case b8v4 => (simp only [Act.put, List.setIfInBounds_toArray, List.set_cons_zero, List.set_cons_succ]; rfl)
              refine Rg.op 9 (some 101) hS (v := (.string (tx (La ++ [32])))) (a' := ?a9v4) (hy := fun wz hwz => ?h9v4) (ha := ?b9v4) (h := ?_)
              case h9v4 => (have t := T3.out; have s := S3.out; go_simp; omega)
              case b9v4 => (simp only [Act.put, List.setIfInBounds_toArray, List.set_cons_zero, List.set_cons_succ]; rfl)
              refine Rg.call 15 (some 107) (hrun := ?h15v4) (hcall := HDy.out _) (h := ?_)
              case h15v4 => (go_simp)
              rintro e w9 ⟨rfl, rfl⟩
              refine ⟨_, ?a15v4, rfl, ?b15v4, (fun _ => hS), ?_⟩
              case b15v4 => (simp only [Act.put, List.setIfInBounds_toArray, List.set_cons_zero, List.set_cons_succ]; rfl)
              refine Rg.op 16 (some 108) hS (v := (.string (tx Lb))) (a' := ?a16v4) (hy := fun wz hwz => ?h16v4) (ha := ?b16v4) (h := ?_)
              case h16v4 => (have t := T4.out; have s := S4.out; have s2 := SY.out; go_simp; omega)
              case b16v4 => (simp only [Act.put, List.setIfInBounds_toArray, List.set_cons_zero, List.set_cons_succ]; rfl)
              refine Rg.op 17 (some 6) hS (v := ?v17v4) (a' := ?a17v4) (hy := fun wz hwz => ?h17v4) (ha := ?b17v4) (h := ?_)
              case h17v4 => (go_simp; try with_reducible rfl)
              case b17v4 => (simp only [Act.put, List.setIfInBounds_toArray, List.set_cons_zero, List.set_cons_succ]; rfl)
              refine Rg.done _ (h := ?_)
              go_wp2
              go_roundw
              case rel => exact ⟨k + 1, by omega, by omega, by go_num, by rw [HPr2.out], hF.out.trans hS⟩
              case measure => simp [intOf]; omega
            · have k1 : (k : Int) < (M : Int) := by omega
              have k2 : ¬ (k : Int) ≤ 64 := by omega
              obtain rfl : k = 65 := by omega
              go_wp2
              go_ret
              exact ⟨by rw [HRl.out]; rfl, HFw.out⟩
          · obtain rfl : k = M := by omega
            have he : cl.take 65 = cl.take k := by rw [List.take_of_length_le (by rw [HM.out]; omega), List.take_of_length_le (by rw [HM.out]; exact Nat.le_refl _)]
            have hRk := HRl.out
            rw [he] at hRk
            have HRk := Lib.hid hRk
            clear hRk he
            go_wp2
            go_ret
            exact ⟨by rw [HRk.out]; rfl, HFw.out⟩
      · have HNums : Hid (numsR ⟨wd, kd, op, fr, 0, 1⟩ ⟨kd, op, ca, cb, fr, cl, (p1, p2), (q1, q2), cn⟩ = [] ++ flat [(p1, p2)]) := by
          show numsR _ _ = _
          unfold numsR
          dsimp only
          rw [if_neg HK1.out, if_neg (by rintro (h | h); exact HK1.out h; exact absurd h (by decide))]
          rfl
        have HRl : Hid (R = tx (ln wd ([] ++ flat [(p1, p2)]))) := by show R = _; rw [← HR2.out, HNums.out]
        have HIn : Hid (∀ n ∈ [] ++ flat [(p1, p2)], I64 n) := by
          intro n hn
          rcases List.mem_append.1 hn with h | h
          · simp only [List.mem_cons, List.not_mem_nil, or_false] at h
            try cases h
          · refine flat_in (fun z hz => ?_) n h
            simp only [List.mem_cons, List.not_mem_nil, or_false] at hz
            subst hz
            exact HPp.out.1
        have HbP : Hid (Blk ((w2.alloc (.cells #[.int .i64 kd, .int .i64 op, .bool fr, .int .i64 0, .int .i64 1, .int .i64 hi] 64)).alloc (.cells #[.int .i64 p1, .int .i64 p2] 30)) (w2.heap.size + 1) 30 #[.int .i64 p1, .int .i64 p2]) := by
          have := Blk.new (w2.alloc (.cells #[.int .i64 kd, .int .i64 op, .bool fr, .int .i64 0, .int .i64 1, .int .i64 hi] 64)) 30 #[.int .i64 p1, .int .i64 p2]
          rwa [World.size_alloc] at this
        have HPr : Hid (∀ V, Fr Nob ((w2.alloc (.cells #[.int .i64 kd, .int .i64 op, .bool fr, .int .i64 0, .int .i64 1, .int .i64 hi] 64)).alloc (.cells #[.int .i64 p1, .int .i64 p2] 30)) V → PtsIn V (some ⟨w2.heap.size + 1, 0, none⟩) [(p1, p2)]) := by
          intro V hV _
          have hb := HbP.out.fr hV (fun h => h)
          refine ⟨_, _, rfl, fun j p hj => ?_⟩
          match j, hj with
          | 0, h => injection h with h; subst h; exact ⟨hb.cell 0, hb.cell 1⟩
          | (j + 1), h => simp at h
        have HStart : Hid (ln wd ([] ++ flat ([(p1, p2)].take 0)) = wd) := by
          show ln wd ([] ++ flat ([(p1, p2)].take 0)) = _
          simp [flat, ln]
        go_wp2
        go_loopw [6, 8] (fun s i wr => ∃ k : Nat, k ≤ 1 ∧ k ≤ 65 ∧ i = .int .i64 k ∧ s = .string (tx (ln wd ([] ++ flat ([(p1, p2)].take k)))) ∧ Hid (Fr Nob ((w2.alloc (.cells #[.int .i64 kd, .int .i64 op, .bool fr, .int .i64 0, .int .i64 1, .int .i64 hi] 64)).alloc (.cells #[.int .i64 p1, .int .i64 p2] 30)) wr)) (fun _ i _ => 1 - (intOf i).toNat)
        case atStart => exact ⟨0, Nat.zero_le _, Nat.zero_le _, rfl, by rw [HStart.out], Fr.refl _ _⟩
        case round =>
          obtain ⟨k, hk, hk65, rfl, rfl, hF⟩ := hrel
          have hFw : Fr Nob w wr := ((HF2.out.alloc _).alloc _).trans hF.out
          have HFw := Lib.hid hFw
          clear hFw
          by_cases hlt : k < 1
          · by_cases h64 : k ≤ 64
            · have hkl : k < [(p1, p2)].length := hlt
              obtain ⟨ga, oa, eA, hcc⟩ := HPr.out wr hF.out (by omega)
              injection eA with eA
              injection eA with e1 e2
              subst e1 e2
              obtain ⟨c0, c1⟩ := hcc k _ (List.getElem?_eq_getElem hkl)
              rw [Nat.zero_add] at c0 c1
              have hgz := cell_lt c0
              dsimp only at hgz
              have htk : [(p1, p2)].take (k + 1) = [(p1, p2)].take k ++ [[(p1, p2)][k]] := (List.take_append_getElem hkl).symm
              have hlen2 : ([] ++ flat ([(p1, p2)].take k)).length ≤ 200 := by rw [List.length_append, flat_length, List.length_take]; simp; omega
              have hpre : ∀ n ∈ [] ++ flat ([(p1, p2)].take k), I64 n := fun n hn => HIn.out n (by rcases List.mem_append.1 hn with h | h; exact List.mem_append.2 (.inl h); exact List.mem_append.2 (.inr (by obtain ⟨z, hz, hm⟩ := List.mem_flatMap.1 h; exact List.mem_flatMap.2 ⟨z, List.mem_of_mem_take hz, hm⟩)))
              have hll := ln_length wd _ hpre
              have hel : I64 [(p1, p2)][k].1 ∧ I64 [(p1, p2)][k].2 := by have h1 := HPp.out; have : k = 0 := (by omega); (subst this; exact h1.1)
              obtain ⟨z, hz⟩ : ∃ z, [(p1, p2)][k] = z := ⟨_, rfl⟩
              rw [hz] at c0 c1 htk hel
              obtain ⟨x1, x2⟩ := z
              dsimp only at c0 c1 hel
              have hpr : ln wd ([] ++ flat ([(p1, p2)].take (k + 1))) = ln wd ([] ++ flat ([(p1, p2)].take k)) ++ [32] ++ Lib.itoa x1 ++ [32] ++ Lib.itoa x2 := by
                rw [htk, flat_snoc, ← List.append_assoc]; exact ln_pair _ _ _ _
              obtain ⟨Ls, hLs⟩ : ∃ Ls, ln wd ([] ++ flat ([(p1, p2)].take k)) = Ls := ⟨_, rfl⟩
              rw [hLs] at hll hpr ⊢
              obtain ⟨X, hX⟩ : ∃ X, Lib.itoa x1 = X := ⟨_, rfl⟩
              obtain ⟨Y, hY⟩ : ∃ Y, Lib.itoa x2 = Y := ⟨_, rfl⟩
              have HDx := Lib.hid (fun W => Digits_any x1 hel.1.1 hel.1.2 W)
              have HDy := Lib.hid (fun W => Digits_any x2 hel.2.1 hel.2.2 W)
              rw [hX] at HDx hpr
              rw [hY] at HDy hpr
              have hXl : X.length ≤ 21 := by rw [← hX]; exact Lib.itoa_length_le _ hel.1.1 hel.1.2
              have hYl : Y.length ≤ 21 := by rw [← hY]; exact Lib.itoa_length_le _ hel.2.1 hel.2.2
              obtain ⟨La, hLa⟩ : ∃ L, Ls ++ [32] ++ X = L := ⟨_, rfl⟩
              rw [hLa] at hpr
              obtain ⟨Lb, hLb⟩ : ∃ L, La ++ [32] ++ Y = L := ⟨_, rfl⟩
              rw [hLb] at hpr
              have T1 : Hid (tx Ls ++ ⟨#[32]⟩ = tx (Ls ++ [32])) := tx_append Ls [32]
              have T2 : Hid (tx (Ls ++ [32]) ++ tx X = tx La) := by show _ = _; rw [tx_append, hLa]
              have T3 : Hid (tx La ++ ⟨#[32]⟩ = tx (La ++ [32])) := tx_append La [32]
              have T4 : Hid (tx (La ++ [32]) ++ tx Y = tx Lb) := by show _ = _; rw [tx_append, hLb]
              have S1 : Hid ((tx Ls).size ≤ 10000) := by show Ls.length ≤ _; omega
              have S2 : Hid ((tx (Ls ++ [32])).size ≤ 10000) := by show (Ls ++ [32]).length ≤ _; simp; omega
              have S3 : Hid ((tx La).size ≤ 10000) := by show La.length ≤ _; rw [← hLa]; simp; omega
              have S4 : Hid ((tx (La ++ [32])).size ≤ 10000) := by show (La ++ [32]).length ≤ _; rw [← hLa]; simp; omega
              have SX : Hid ((tx X).size ≤ 100) := by show X.length ≤ _; omega
              have SY : Hid ((tx Y).size ≤ 100) := by show Y.length ≤ _; omega
              have HPr2 := Lib.hid hpr
              have C0 := Lib.hid c0
              have C1 := Lib.hid c1
              have k1 : (k : Int) < (1 : Int) := by omega
              have k2 : (k : Int) ≤ 64 := by omega
              have ki : (0 : Int) ≤ (k : Int) := by omega
              clear hX hY hLa hLb hpr c0 c1 hcc htk hz hLs hel hpre
              go_wp2
              have hS : Fr Nob wr wr.drew := (Fr.refl Nob wr).drew
              refine Rg.begin' (Fr Nob wr) [] (by kernel_rfl) ?_
              refine Rg.op 0 (some 92) hS (v := ?v0v5) (a' := ?a0v5) (hy := fun wz hwz => ?h0v5) (ha := ?b0v5) (h := ?_)
              case h0v5 => (go_simp; try with_reducible rfl)
              case b0v5 => (simp only [Act.put, List.setIfInBounds_toArray, List.set_cons_zero, List.set_cons_succ]; rfl)
              refine Rg.op 1 (some 93) hS (v := (.string (tx (Ls ++ [32])))) (a' := ?a1v5) (hy := fun wz hwz => ?h1v5) (ha := ?b1v5) (h := ?_)
              case h1v5 => (have t := T1.out; have s := S1.out; go_simp; omega)
              case b1v5 => (simp only [Act.put, List.setIfInBounds_toArray, List.set_cons_zero, List.set_cons_succ]; rfl)
              refine Rg.op 2 (some 94) hS (v := ?v2v5) (a' := ?a2v5) (hy := fun wz hwz => ?h2v5) (ha := ?b2v5) (h := ?_)
              case h2v5 => (go_simp; try with_reducible rfl)
              case b2v5 => (simp only [Act.put, List.setIfInBounds_toArray, List.set_cons_zero, List.set_cons_succ]; rfl)
              refine Rg.op 3 (some 95) hS (v := ?v3v5) (a' := ?a3v5) (hy := fun wz hwz => ?h3v5) (ha := ?b3v5) (h := ?_)
              case h3v5 => (go_simp; try with_reducible rfl)
              case b3v5 => (simp only [Act.put, List.setIfInBounds_toArray, List.set_cons_zero, List.set_cons_succ]; rfl)
              refine Rg.op 4 (some 96) hS (v := ?v4v5) (a' := ?a4v5) (hy := fun wz hwz => ?h4v5) (ha := ?b4v5) (h := ?_)
              case h4v5 => (have hq := hlt; go_simp; try with_reducible rfl)
              case b4v5 => (simp only [Act.put, List.setIfInBounds_toArray, List.set_cons_zero, List.set_cons_succ]; rfl)
              refine Rg.op 5 (some 97) hS (v := ?v5v5) (a' := ?a5v5) (hy := fun wz hwz => ?h5v5) (ha := ?b5v5) (h := ?_)
              case h5v5 => (have hpp := Nat.lt_of_lt_of_le hgz hwz.size; go_simp; try with_reducible rfl)
              case b5v5 => (simp only [Act.put, List.setIfInBounds_toArray, List.set_cons_zero, List.set_cons_succ]; rfl)
              refine Rg.op 6 (some 98) hS (v := (.int .i64 x1)) (a' := ?a6v5) (hy := fun wz hwz => ?h6v5) (ha := ?b6v5) (h := ?_)
              case h6v5 => (have cx := (hwz.cell (p := ⟨w2.heap.size + 1, k * 2, none⟩) hgz (fun h => h)).trans C0.out; have hpp := Nat.lt_of_lt_of_le hgz hwz.size; go_simp; try with_reducible rfl)
              case b6v5 => (simp only [Act.put, List.setIfInBounds_toArray, List.set_cons_zero, List.set_cons_succ]; rfl)
              refine Rg.op 10 (some 102) hS (v := ?v10v5) (a' := ?a10v5) (hy := fun wz hwz => ?h10v5) (ha := ?b10v5) (h := ?_)
              case h10v5 => (go_simp; try with_reducible rfl)
              case b10v5 => (simp only [Act.put, List.setIfInBounds_toArray, List.set_cons_zero, List.set_cons_succ]; rfl)
              refine Rg.op 11 (some 103) hS (v := ?v11v5) (a' := ?a11v5) (hy := fun wz hwz => ?h11v5) (ha := ?b11v5) (h := ?_)
              case h11v5 => (go_simp; try with_reducible rfl)
              case b11v5 => (simp only [Act.put, List.setIfInBounds_toArray, List.set_cons_zero, List.set_cons_succ]; rfl)
              refine Rg.op 12 (some 104) hS (v := ?v12v5) (a' := ?a12v5) (hy := fun wz hwz => ?h12v5) (ha := ?b12v5) (h := ?_)
              case h12v5 => (have hq := hlt; go_simp; try with_reducible rfl)
              case b12v5 => (simp only [Act.put, List.setIfInBounds_toArray, List.set_cons_zero, List.set_cons_succ]; rfl)
              refine Rg.op 13 (some 105) hS (v := ?v13v5) (a' := ?a13v5) (hy := fun wz hwz => ?h13v5) (ha := ?b13v5) (h := ?_)
              case h13v5 => (have hpp := Nat.lt_of_lt_of_le hgz hwz.size; go_simp; try with_reducible rfl)
              case b13v5 => (simp only [Act.put, List.setIfInBounds_toArray, List.set_cons_zero, List.set_cons_succ]; rfl)
              refine Rg.op 14 (some 106) hS (v := (.int .i64 x2)) (a' := ?a14v5) (hy := fun wz hwz => ?h14v5) (ha := ?b14v5) (h := ?_)
              case h14v5 => (have cx := (hwz.cell (p := ⟨w2.heap.size + 1, k * 2 + 1, none⟩) hgz (fun h => h)).trans C1.out; have hpp := Nat.lt_of_lt_of_le hgz hwz.size; go_simp; try with_reducible rfl)
              case b14v5 => (simp only [Act.put, List.setIfInBounds_toArray, List.set_cons_zero, List.set_cons_succ]; rfl)
              refine Rg.call 7 (some 99) (hrun := ?h7v5) (hcall := HDx.out _) (h := ?_)
              case h7v5 => (go_simp)
              rintro e w9 ⟨rfl, rfl⟩
              refine ⟨_, ?a7v5, rfl, ?b7v5, (fun _ => hS), ?_⟩
              case b7v5 => (simp only [Act.put, List.setIfInBounds_toArray, List.set_cons_zero, List.set_cons_succ]; rfl)
              refine Rg.op 8 (some 100) hS (v := (.string (tx La))) (a' := ?a8v5) (hy := fun wz hwz => ?h8v5) (ha := ?b8v5) (h := ?_)
              case h8v5 => (have t := T2.out; have s := S2.out; have s2 := SX.out; go_simp; omega)
              case b8v5 => (simp only [Act.put, List.setIfInBounds_toArray, List.set_cons_zero, List.set_cons_succ]; rfl)
              refine Rg.op 9 (some 101) hS (v := (.string (tx (La ++ [32])))) (a' := ?a9v5) (hy := fun wz hwz => ?h9v5) (ha := ?b9v5) (h := ?_)
              case h9v5 => (have t := T3.out; have s := S3.out; go_simp; omega)
              case b9v5 => (simp only [Act.put, List.setIfInBounds_toArray, List.set_cons_zero, List.set_cons_succ]; rfl)
              refine Rg.call 15 (some 107) (hrun := ?h15v5) (hcall := HDy.out _) (h := ?_)
              case h15v5 => (go_simp)
              rintro e w9 ⟨rfl, rfl⟩
              refine ⟨_, ?a15v5, rfl, ?b15v5, (fun _ => hS), ?_⟩
              case b15v5 => (simp only [Act.put, List.setIfInBounds_toArray, List.set_cons_zero, List.set_cons_succ]; rfl)
              refine Rg.op 16 (some 108) hS (v := (.string (tx Lb))) (a' := ?a16v5) (hy := fun wz hwz => ?h16v5) (ha := ?b16v5) (h := ?_)
              case h16v5 => (have t := T4.out; have s := S4.out; have s2 := SY.out; go_simp; omega)
              case b16v5 => (simp only [Act.put, List.setIfInBounds_toArray, List.set_cons_zero, List.set_cons_succ]; rfl)
              refine Rg.op 17 (some 6) hS (v := ?v17v5) (a' := ?a17v5) (hy := fun wz hwz => ?h17v5) (ha := ?b17v5) (h := ?_)
              case h17v5 => (go_simp; try with_reducible rfl)
              case b17v5 => (simp only [Act.put, List.setIfInBounds_toArray, List.set_cons_zero, List.set_cons_succ]; rfl)
              refine Rg.done _ (h := ?_)
              go_wp2
              go_roundw
              case rel => exact ⟨k + 1, by omega, by omega, by go_num, by rw [HPr2.out], hF.out.trans hS⟩
              case measure => simp [intOf]; omega
            · have k1 : (k : Int) < (1 : Int) := by omega
              have k2 : ¬ (k : Int) ≤ 64 := by omega
              omega
          · obtain rfl : k = 1 := by omega
            go_wp2
            go_ret
            exact ⟨by rw [HRl.out]; rfl, HFw.out⟩
      · have HNums : Hid (numsR ⟨wd, kd, op, fr, 0, 2⟩ ⟨kd, op, ca, cb, fr, cl, (p1, p2), (q1, q2), cn⟩ = [] ++ flat [(p1, p2), (q1, q2)]) := by
          show numsR _ _ = _
          unfold numsR
          dsimp only
          rw [if_neg HK1.out, if_neg (by rintro (h | h); exact HK1.out h; exact absurd h (by decide))]
          rfl
        have HRl : Hid (R = tx (ln wd ([] ++ flat [(p1, p2), (q1, q2)]))) := by show R = _; rw [← HR2.out, HNums.out]
        have HIn : Hid (∀ n ∈ [] ++ flat [(p1, p2), (q1, q2)], I64 n) := by
          intro n hn
          rcases List.mem_append.1 hn with h | h
          · simp only [List.mem_cons, List.not_mem_nil, or_false] at h
            try cases h
          · refine flat_in (fun z hz => ?_) n h
            simp only [List.mem_cons, List.not_mem_nil, or_false] at hz
            rcases hz with rfl | rfl
            · exact HPp.out.1
            · exact HPp.out.2
        have HbP : Hid (Blk ((w2.alloc (.cells #[.int .i64 kd, .int .i64 op, .bool fr, .int .i64 0, .int .i64 2, .int .i64 hi] 64)).alloc (.cells #[.int .i64 p1, .int .i64 p2, .int .i64 q1, .int .i64 q2] 30)) (w2.heap.size + 1) 30 #[.int .i64 p1, .int .i64 p2, .int .i64 q1, .int .i64 q2]) := by
          have := Blk.new (w2.alloc (.cells #[.int .i64 kd, .int .i64 op, .bool fr, .int .i64 0, .int .i64 2, .int .i64 hi] 64)) 30 #[.int .i64 p1, .int .i64 p2, .int .i64 q1, .int .i64 q2]
          rwa [World.size_alloc] at this
        have HPr : Hid (∀ V, Fr Nob ((w2.alloc (.cells #[.int .i64 kd, .int .i64 op, .bool fr, .int .i64 0, .int .i64 2, .int .i64 hi] 64)).alloc (.cells #[.int .i64 p1, .int .i64 p2, .int .i64 q1, .int .i64 q2] 30)) V → PtsIn V (some ⟨w2.heap.size + 1, 0, none⟩) [(p1, p2), (q1, q2)]) := by
          intro V hV _
          have hb := HbP.out.fr hV (fun h => h)
          refine ⟨_, _, rfl, fun j p hj => ?_⟩
          match j, hj with
          | 0, h => injection h with h; subst h; exact ⟨hb.cell 0, hb.cell 1⟩
          | 1, h => injection h with h; subst h; exact ⟨hb.cell 2, hb.cell 3⟩
          | (j + 2), h => simp at h
        have HStart : Hid (ln wd ([] ++ flat ([(p1, p2), (q1, q2)].take 0)) = wd) := by
          show ln wd ([] ++ flat ([(p1, p2), (q1, q2)].take 0)) = _
          simp [flat, ln]
        go_wp2
        go_loopw [6, 8] (fun s i wr => ∃ k : Nat, k ≤ 2 ∧ k ≤ 65 ∧ i = .int .i64 k ∧ s = .string (tx (ln wd ([] ++ flat ([(p1, p2), (q1, q2)].take k)))) ∧ Hid (Fr Nob ((w2.alloc (.cells #[.int .i64 kd, .int .i64 op, .bool fr, .int .i64 0, .int .i64 2, .int .i64 hi] 64)).alloc (.cells #[.int .i64 p1, .int .i64 p2, .int .i64 q1, .int .i64 q2] 30)) wr)) (fun _ i _ => 2 - (intOf i).toNat)
        case atStart => exact ⟨0, Nat.zero_le _, Nat.zero_le _, rfl, by rw [HStart.out], Fr.refl _ _⟩
        case round =>
          obtain ⟨k, hk, hk65, rfl, rfl, hF⟩ := hrel
          have hFw : Fr Nob w wr := ((HF2.out.alloc _).alloc _).trans hF.out
          have HFw := Lib.hid hFw
          clear hFw
          by_cases hlt : k < 2
          · by_cases h64 : k ≤ 64
            · have hkl : k < [(p1, p2), (q1, q2)].length := hlt
              obtain ⟨ga, oa, eA, hcc⟩ := HPr.out wr hF.out (by omega)
              injection eA with eA
              injection eA with e1 e2
              subst e1 e2
              obtain ⟨c0, c1⟩ := hcc k _ (List.getElem?_eq_getElem hkl)
              rw [Nat.zero_add] at c0 c1
              have hgz := cell_lt c0
              dsimp only at hgz
              have htk : [(p1, p2), (q1, q2)].take (k + 1) = [(p1, p2), (q1, q2)].take k ++ [[(p1, p2), (q1, q2)][k]] := (List.take_append_getElem hkl).symm
              have hlen2 : ([] ++ flat ([(p1, p2), (q1, q2)].take k)).length ≤ 200 := by rw [List.length_append, flat_length, List.length_take]; simp; omega
              have hpre : ∀ n ∈ [] ++ flat ([(p1, p2), (q1, q2)].take k), I64 n := fun n hn => HIn.out n (by rcases List.mem_append.1 hn with h | h; exact List.mem_append.2 (.inl h); exact List.mem_append.2 (.inr (by obtain ⟨z, hz, hm⟩ := List.mem_flatMap.1 h; exact List.mem_flatMap.2 ⟨z, List.mem_of_mem_take hz, hm⟩)))
              have hll := ln_length wd _ hpre
              have hel : I64 [(p1, p2), (q1, q2)][k].1 ∧ I64 [(p1, p2), (q1, q2)][k].2 := by have h1 := HPp.out; have : k = 0 ∨ k = 1 := (by omega); (rcases this with rfl | rfl; exact h1.1; exact h1.2)
              obtain ⟨z, hz⟩ : ∃ z, [(p1, p2), (q1, q2)][k] = z := ⟨_, rfl⟩
              rw [hz] at c0 c1 htk hel
              obtain ⟨x1, x2⟩ := z
              dsimp only at c0 c1 hel
              have hpr : ln wd ([] ++ flat ([(p1, p2), (q1, q2)].take (k + 1))) = ln wd ([] ++ flat ([(p1, p2), (q1, q2)].take k)) ++ [32] ++ Lib.itoa x1 ++ [32] ++ Lib.itoa x2 := by
                rw [htk, flat_snoc, ← List.append_assoc]; exact ln_pair _ _ _ _
              obtain ⟨Ls, hLs⟩ : ∃ Ls, ln wd ([] ++ flat ([(p1, p2), (q1, q2)].take k)) = Ls := ⟨_, rfl⟩
              rw [hLs] at hll hpr ⊢
              obtain ⟨X, hX⟩ : ∃ X, Lib.itoa x1 = X := ⟨_, rfl⟩
              obtain ⟨Y, hY⟩ : ∃ Y, Lib.itoa x2 = Y := ⟨_, rfl⟩
              have HDx := Lib.hid (fun W => Digits_any x1 hel.1.1 hel.1.2 W)
              have HDy := Lib.hid (fun W => Digits_any x2 hel.2.1 hel.2.2 W)
              rw [hX] at HDx hpr
              rw [hY] at HDy hpr
              have hXl : X.length ≤ 21 := by rw [← hX]; exact Lib.itoa_length_le _ hel.1.1 hel.1.2
              have hYl : Y.length ≤ 21 := by rw [← hY]; exact Lib.itoa_length_le _ hel.2.1 hel.2.2
              obtain ⟨La, hLa⟩ : ∃ L, Ls ++ [32] ++ X = L := ⟨_, rfl⟩
              rw [hLa] at hpr
              obtain ⟨Lb, hLb⟩ : ∃ L, La ++ [32] ++ Y = L := ⟨_, rfl⟩
              rw [hLb] at hpr
              have T1 : Hid (tx Ls ++ ⟨#[32]⟩ = tx (Ls ++ [32])) := tx_append Ls [32]
              have T2 : Hid (tx (Ls ++ [32]) ++ tx X = tx La) := by show _ = _; rw [tx_append, hLa]
              have T3 : Hid (tx La ++ ⟨#[32]⟩ = tx (La ++ [32])) := tx_append La [32]
              have T4 : Hid (tx (La ++ [32]) ++ tx Y = tx Lb) := by show _ = _; rw [tx_append, hLb]
              have S1 : Hid ((tx Ls).size ≤ 10000) := by show Ls.length ≤ _; omega
              have S2 : Hid ((tx (Ls ++ [32])).size ≤ 10000) := by show (Ls ++ [32]).length ≤ _; simp; omega
              have S3 : Hid ((tx La).size ≤ 10000) := by show La.length ≤ _; rw [← hLa]; simp; omega
              have S4 : Hid ((tx (La ++ [32])).size ≤ 10000) := by show (La ++ [32]).length ≤ _; rw [← hLa]; simp; omega
              have SX : Hid ((tx X).size ≤ 100) := by show X.length ≤ _; omega
              have SY : Hid ((tx Y).size ≤ 100) := by show Y.length ≤ _; omega
              have HPr2 := Lib.hid hpr
              have C0 := Lib.hid c0
              have C1 := Lib.hid c1
              have k1 : (k : Int) < (2 : Int) := by omega
              have k2 : (k : Int) ≤ 64 := by omega
              have ki : (0 : Int) ≤ (k : Int) := by omega
              clear hX hY hLa hLb hpr c0 c1 hcc htk hz hLs hel hpre
              go_wp2
              have hS : Fr Nob wr wr.drew := (Fr.refl Nob wr).drew
              refine Rg.begin' (Fr Nob wr) [] (by kernel_rfl) ?_
              refine Rg.op 0 (some 92) hS (v := ?v0v6) (a' := ?a0v6) (hy := fun wz hwz => ?h0v6) (ha := ?b0v6) (h := ?_)
              case h0v6 => (go_simp; try with_reducible rfl)
              case b0v6 => (simp only [Act.put, List.setIfInBounds_toArray, List.set_cons_zero, List.set_cons_succ]; rfl)
              refine Rg.op 1 (some 93) hS (v := (.string (tx (Ls ++ [32])))) (a' := ?a1v6) (hy := fun wz hwz => ?h1v6) (ha := ?b1v6) (h := ?_)
              case h1v6 => (have t := T1.out; have s := S1.out; go_simp; omega)
              case b1v6 => (simp only [Act.put, List.setIfInBounds_toArray, List.set_cons_zero, List.set_cons_succ]; rfl)
              refine Rg.op 2 (some 94) hS (v := ?v2v6) (a' := ?a2v6) (hy := fun wz hwz => ?h2v6) (ha := ?b2v6) (h := ?_)
              case h2v6 => (go_simp; try with_reducible rfl)
              case b2v6 => (simp only [Act.put, List.setIfInBounds_toArray, List.set_cons_zero, List.set_cons_succ]; rfl)
              refine Rg.op 3 (some 95) hS (v := ?v3v6) (a' := ?a3v6) (hy := fun wz hwz => ?h3v6) (ha := ?b3v6) (h := ?_)
              case h3v6 => (go_simp; try with_reducible rfl)
              case b3v6 => (simp only [Act.put, List.setIfInBounds_toArray, List.set_cons_zero, List.set_cons_succ]; rfl)
              refine Rg.op 4 (some 96) hS (v := ?v4v6) (a' := ?a4v6) (hy := fun wz hwz => ?h4v6) (ha := ?b4v6) (h := ?_)
              case h4v6 => (have hq := hlt; go_simp; try with_reducible rfl)
              case b4v6 => (simp only [Act.put, List.setIfInBounds_toArray, List.set_cons_zero, List.set_cons_succ]; rfl)
              refine Rg.op 5 (some 97) hS (v := ?v5v6) (a' := ?a5v6) (hy := fun wz hwz => ?h5v6) (ha := ?b5v6) (h := ?_)
              case h5v6 => (have hpp := Nat.lt_of_lt_of_le hgz hwz.size; go_simp; try with_reducible rfl)
              case b5v6 => (simp only [Act.put, List.setIfInBounds_toArray, List.set_cons_zero, List.set_cons_succ]; rfl)
              refine Rg.op 6 (some 98) hS (v := (.int .i64 x1)) (a' := ?a6v6) (hy := fun wz hwz => ?h6v6) (ha := ?b6v6) (h := ?_)
              case h6v6 => (have cx := (hwz.cell (p := ⟨w2.heap.size + 1, k * 2, none⟩) hgz (fun h => h)).trans C0.out; have hpp := Nat.lt_of_lt_of_le hgz hwz.size; go_simp; try with_reducible rfl)
              case b6v6 => (simp only [Act.put, List.setIfInBounds_toArray, List.set_cons_zero, List.set_cons_succ]; rfl)
              refine Rg.op 10 (some 102) hS (v := ?v10v6) (a' := ?a10v6) (hy := fun wz hwz => ?h10v6) (ha := ?b10v6) (h := ?_)
              case h10v6 => (go_simp; try with_reducible rfl)
              case b10v6 => (simp only [Act.put, List.setIfInBounds_toArray, List.set_cons_zero, List.set_cons_succ]; rfl)
              refine Rg.op 11 (some 103) hS (v := ?v11v6) (a' := ?a11v6) (hy := fun wz hwz => ?h11v6) (ha := ?b11v6) (h := ?_)
              case h11v6 => (go_simp; try with_reducible rfl)
              case b11v6 => (simp only [Act.put, List.setIfInBounds_toArray, List.set_cons_zero, List.set_cons_succ]; rfl)
              refine Rg.op 12 (some 104) hS (v := ?v12v6) (a' := ?a12v6) (hy := fun wz hwz => ?h12v6) (ha := ?b12v6) (h := ?_)
              case h12v6 => (have hq := hlt; go_simp; try with_reducible rfl)
              case b12v6 => (simp only [Act.put, List.setIfInBounds_toArray, List.set_cons_zero, List.set_cons_succ]; rfl)
              refine Rg.op 13 (some 105) hS (v := ?v13v6) (a' := ?a13v6) (hy := fun wz hwz => ?h13v6) (ha := ?b13v6) (h := ?_)
              case h13v6 => (have hpp := Nat.lt_of_lt_of_le hgz hwz.size; go_simp; try with_reducible rfl)
              case b13v6 => (simp only [Act.put, List.setIfInBounds_toArray, List.set_cons_zero, List.set_cons_succ]; rfl)
              refine Rg.op 14 (some 106) hS (v := (.int .i64 x2)) (a' := ?a14v6) (hy := fun wz hwz => ?h14v6) (ha := ?b14v6) (h := ?_)
              case h14v6 => (have cx := (hwz.cell (p := ⟨w2.heap.size + 1, k * 2 + 1, none⟩) hgz (fun h => h)).trans C1.out; have hpp := Nat.lt_of_lt_of_le hgz hwz.size; go_simp; try with_reducible rfl)
              case b14v6 => (simp only [Act.put, List.setIfInBounds_toArray, List.set_cons_zero, List.set_cons_succ]; rfl)
              refine Rg.call 7 (some 99) (hrun := ?h7v6) (hcall := HDx.out _) (h := ?_)
              case h7v6 => (go_simp)
              rintro e w9 ⟨rfl, rfl⟩
              refine ⟨_, ?a7v6, rfl, ?b7v6, (fun _ => hS), ?_⟩
              case b7v6 => (simp only [Act.put, List.setIfInBounds_toArray, List.set_cons_zero, List.set_cons_succ]; rfl)
              refine Rg.op 8 (some 100) hS (v := (.string (tx La))) (a' := ?a8v6) (hy := fun wz hwz => ?h8v6) (ha := ?b8v6) (h := ?_)
              case h8v6 => (have t := T2.out; have s := S2.out; have s2 := SX.out; go_simp; omega)
              case b8v6 => (simp only [Act.put, List.setIfInBounds_toArray, List.set_cons_zero, List.set_cons_succ]; rfl)
              refine Rg.op 9 (some 101) hS (v := (.string (tx (La ++ [32])))) (a' := ?a9v6) (hy := fun wz hwz => ?h9v6) (ha := ?b9v6) (h := ?_)
              case h9v6 => (have t := T3.out; have s := S3.out; go_simp; omega)
              case b9v6 => (simp only [Act.put, List.setIfInBounds_toArray, List.set_cons_zero, List.set_cons_succ]; rfl)
              refine Rg.call 15 (some 107) (hrun := ?h15v6) (hcall := HDy.out _) (h := ?_)
              case h15v6 => (go_simp)
              rintro e w9 ⟨rfl, rfl⟩
              refine ⟨_, ?a15v6, rfl, ?b15v6, (fun _ => hS), ?_⟩
              case b15v6 => (simp only [Act.put, List.setIfInBounds_toArray, List.set_cons_zero, List.set_cons_succ]; rfl)
              refine Rg.op 16 (some 108) hS (v := (.string (tx Lb))) (a' := ?a16v6) (hy := fun wz hwz => ?h16v6) (ha := ?b16v6) (h := ?_)
              case h16v6 => (have t := T4.out; have s := S4.out; have s2 := SY.out; go_simp; omega)
              case b16v6 => (simp only [Act.put, List.setIfInBounds_toArray, List.set_cons_zero, List.set_cons_succ]; rfl)
              refine Rg.op 17 (some 6) hS (v := ?v17v6) (a' := ?a17v6) (hy := fun wz hwz => ?h17v6) (ha := ?b17v6) (h := ?_)
              case h17v6 => (go_simp; try with_reducible rfl)
              case b17v6 => (simp only [Act.put, List.setIfInBounds_toArray, List.set_cons_zero, List.set_cons_succ]; rfl)
              refine Rg.done _ (h := ?_)
              go_wp2
              go_roundw
              case rel => exact ⟨k + 1, by omega, by omega, by go_num, by rw [HPr2.out], hF.out.trans hS⟩
              case measure => simp [intOf]; omega
            · have k1 : (k : Int) < (2 : Int) := by omega
              have k2 : ¬ (k : Int) ≤ 64 := by omega
              omega
          · obtain rfl : k = 2 := by omega
            go_wp2
            go_ret
            exact ⟨by rw [HRl.out]; rfl, HFw.out⟩
end Go.Proofs.YtidohbhcjnmmeaaDoor
