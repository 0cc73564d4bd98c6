/-
  The reference's CmdText.
-/
import Derived.Test.YtidohbhcjnmmeaaDoorCmdLaw
namespace Go.Proofs.YtidohbhcjnmmeaaDoor
set_option linter.unusedSimpArgs false
set_option linter.unusedVariables false
open Go.RowKit

/-- CmdText's answer. -/
def CTRes (T : Option (List UInt8)) (w : World) (e : Ending) (w' : World) : Prop := e = .returned (.tuple #[.string (tx (T.getD [])), .bool T.isSome]) ∧ Fr Nob w w'
theorem ln_len_le (w : List UInt8) (ns : List Int) (h : ∀ n ∈ ns, I64 n) (hw : w.length ≤ 100) (hn : ns.length ≤ 200) : (ln w ns).length ≤ 10000 := by have := ln_length w ns h; omega
theorem lineC_length (c : Cm) (hok : c.Ok) : (lineC c).length ≤ 10000 := by
  unfold lineC
  cases hf : tblR.find? (matchT c) with
  | none => exact Nat.zero_le _
  | some x =>
    have hx := tblR_mem x (List.mem_of_find?_eq_some hf)
    refine ln_len_le _ _ (fun n hn => ?_) (tbl_kinds x hx).2 ?_
    · unfold numsR at hn
      rcases List.mem_append.1 hn with h | h
      · have := List.mem_of_mem_take h
        split at this
        · simp only [List.mem_cons, List.not_mem_nil, or_false] at this
          rcases this with rfl | rfl
          · exact hok.a
          · exact hok.b
        · simp only [List.mem_cons, List.not_mem_nil, or_false] at this
          subst this; exact hok.n
      · refine flat_in (fun z hz => ?_) n h
        split at hz
        · exact hok.line z (List.mem_of_mem_take hz)
        · have := List.mem_of_mem_take hz
          simp only [List.mem_cons, List.not_mem_nil, or_false] at this
          rcases this with rfl | rfl
          · exact hok.p
          · exact hok.q
    · unfold numsR
      rw [List.length_append, flat_length]
      have h1 : ((if x.kind = 1 then [c.a, c.b] else [c.n]).take x.n).length ≤ 2 := by rw [List.length_take]; split <;> simp <;> omega
      have h2 : (if x.kind = 1 ∨ x.p = 0 then c.line.take 65 else [c.p, c.q].take x.p).length ≤ 65 := by
        split
        · rw [List.length_take]; omega
        · rw [List.length_take]; simp; omega
      omega

set_option maxHeartbeats 6400000 in
set_option maxRecDepth 100000 in
theorem CText_any (c : Cm) (v : Value) (w : World) (hc : CmIn w c v) (hok : c.Ok) (hlen : c.line.length ≤ 1000000) : Calls Tryd.prog 14 #[v] w fun e w' => CTRes (refText c) w e w' := by
  have HLn := Lib.hid (fun W (hW : Fr Nob w W) => Line_any c v W (hc.new hW) hok hlen)
  have hll := lineC_length c hok
  obtain ⟨A, m, rfl, hm, hpt⟩ := hc
  have HPt := Lib.hid hpt
  obtain ⟨L, hL⟩ : ∃ L, lineC c = L := ⟨_, rfl⟩
  rw [hL] at HLn hll
  obtain ⟨P, hP⟩ : ∃ P, parseC L = P := ⟨_, rfl⟩
  obtain ⟨T, hT⟩ : ∃ T, refText c = T := ⟨_, rfl⟩
  have HT : Hid (T = if P = (c, 0) then some L else none) := by show T = _; rw [← hT, ← hP, ← hL]; rfl
  rw [hT]
  have hPl : P.1.line.length ≤ 1000000 := by rw [← hP]; exact parseC_line L
  have HNil : Hid (L = [] → P ≠ (c, 0)) := fun h => by rw [← hP, h]; exact parseC_nil c
  have HPs : Hid (∀ U, Calls Tryd.prog 12 #[.string (tx L)] U fun e w' => RPRes P U e w') := fun U => by rw [← hP]; exact RParse_any L U (by omega)
  obtain ⟨C, hC⟩ : ∃ C, c = C := ⟨_, rfl⟩
  rw [hC] at HLn HT HNil HPt hm hlen ⊢
  clear hL hP hT hC hok hpt hll
  obtain ⟨ck, co, ca, cb, cf, cl, ⟨p1, p2⟩, ⟨q1, q2⟩, cn⟩ := C
  unfold Cm.v at HLn ⊢
  dsimp only at hm hlen HPt HLn ⊢
  obtain ⟨M, hM⟩ : ∃ M, cl.length = M := ⟨_, rfl⟩
  have HM := Lib.hid hM
  rw [hM] at hm hlen HLn ⊢
  clear hM
  have HbC : Hid (Blk (w.alloc (.cells #[.int .i64 ck, .int .i64 co, .int .i64 ca, .int .i64 cb, .bool cf, .slice A M m, .int .i64 p1, .int .i64 p2, .int .i64 q1, .int .i64 q2, .int .i64 cn] 32)) w.heap.size 32 #[.int .i64 ck, .int .i64 co, .int .i64 ca, .int .i64 cb, .bool cf, .slice A M m, .int .i64 p1, .int .i64 p2, .int .i64 q1, .int .i64 q2, .int .i64 cn]) := Blk.new w _ _
  have HF0 : Hid (Fr Nob w (w.alloc (.cells #[.int .i64 ck, .int .i64 co, .int .i64 ca, .int .i64 cb, .bool cf, .slice A M m, .int .i64 p1, .int .i64 p2, .int .i64 q1, .int .i64 q2, .int .i64 cn] 32))) := (Fr.refl _ _).alloc _
  go_enter Tryd.func14, Tryd.ntmps14
  go_wp2_with fail
  refine (HLn.out _ HF0.out).mono ?_
  rintro e w1 ⟨rfl, hf1⟩
  have HF1 := Lib.hid (HF0.out.trans hf1)
  have HbC1 := Lib.hid (HbC.out.fr hf1 (fun h => h))
  clear hf1 HLn HbC HF0
  go_wp2_with fail
  refine (HPs.out _).mono ?_
  rintro e w2 ⟨v, rfl, ⟨A2, m2, hv, hm2, hp2⟩, hf2⟩
  have HF2 := Lib.hid (HF1.out.trans hf2)
  obtain ⟨D, er⟩ := P
  dsimp only at hv hm2 hp2 hPl
  obtain ⟨dk, do', da, db, df, dl, ⟨r1, r2⟩, ⟨s1, s2⟩, dn⟩ := D
  unfold Cm.v at hv
  dsimp only at hv hm2 hp2 hPl
  subst hv
  have HP2 := Lib.hid hp2
  have hb1 := HbC1.out.fr hf2 (fun h => h)
  have d0 := hb1.cell 0
  have d1 := hb1.cell 1
  have d2 := hb1.cell 2
  have d3 := hb1.cell 3
  have d4 := hb1.cell 4
  have d5 := hb1.cell 5
  have d6 := hb1.cell 6
  have d7 := hb1.cell 7
  have d8 := hb1.cell 8
  have d9 := hb1.cell 9
  have d10 := hb1.cell 10
  have hb1z := hb1.lt
  simp only [List.getElem?_toArray, List.getElem?_cons_zero, List.getElem?_cons_succ] at d0 d1 d2 d3 d4 d5 d6 d7 d8 d9 d10
  obtain ⟨m4, hm4⟩ : ∃ m4, dl.length = m4 := ⟨_, rfl⟩
  have HM4 := Lib.hid hm4
  rw [hm4] at hm2 hPl ⊢
  clear hf2 hp2 hb1 HPs hm4
  have HF3 : Hid (Fr Nob w (w2.alloc (.cells #[.int .i64 dk, .int .i64 do', .int .i64 da, .int .i64 db, .bool df, .slice A2 m4 m2, .int .i64 r1, .int .i64 r2, .int .i64 s1, .int .i64 s2, .int .i64 dn] 32))) := HF2.out.alloc _
  have hem : (tx L).toList.isEmpty = decide (L = []) := by rw [Lib.toList_data]; cases L <;> rfl
  by_cases hL0 : L = []
  · have hem' : (tx L).toList.isEmpty = true := by rw [hem]; exact decide_eq_true hL0
    have HTn : Hid (T = none) := by show T = _; rw [HT.out]; exact if_neg (HNil.out hL0)
    clear hem hL0
    go_wp2
    go_ret2
    exact ⟨by rw [HTn.out]; rfl, HF3.out⟩
  have hem' : (tx L).toList.isEmpty = false := by rw [hem]; exact decide_eq_false hL0
  clear hem hL0
  by_cases he0 : er = 0
  rotate_left
  · have hkb : (er == 0) = false := by simpa using he0
    have HTn : Hid (T = none) := by show T = _; rw [HT.out]; exact if_neg (fun h => he0 (by injection h))
    go_wp2
    go_ret2
    exact ⟨by rw [HTn.out]; rfl, HF3.out⟩
  subst he0
  obtain ⟨sb, hsb⟩ : ∃ sb, decide ((⟨ck, co, ca, cb, cf, cl, (p1, p2), (q1, q2), cn⟩ : Cm) = ⟨dk, do', da, db, df, dl, (r1, r2), (s1, s2), dn⟩) = sb := ⟨_, rfl⟩
  have HSm : Hid (∀ U, Fr Nob w2 U → Calls Tryd.prog 13 #[.agg #[.int .i64 ck, .int .i64 co, .int .i64 ca, .int .i64 cb, .bool cf, .slice A M m, .int .i64 p1, .int .i64 p2, .int .i64 q1, .int .i64 q2, .int .i64 cn], .agg #[.int .i64 dk, .int .i64 do', .int .i64 da, .int .i64 db, .bool df, .slice A2 m4 m2, .int .i64 r1, .int .i64 r2, .int .i64 s1, .int .i64 s2, .int .i64 dn]] U fun e w' => e = .returned (.bool sb) ∧ Fr Nob U w') := by
    intro U hU
    have := SameCmd_any ⟨ck, co, ca, cb, cf, cl, (p1, p2), (q1, q2), cn⟩ ⟨dk, do', da, db, df, dl, (r1, r2), (s1, s2), dn⟩ A A2 m m2 U ((HPt.out.new HF2.out).new hU) (HP2.out.new hU) (by show cl.length ≤ _; rw [HM.out]; exact hlen) (by show dl.length ≤ _; rw [HM4.out]; exact hPl)
    unfold Cm.v at this
    dsimp only at this
    rw [HM.out, HM4.out, hsb] at this
    exact this
  have HTs : Hid (T = if sb = true then some L else none) := by
    show T = _
    rw [HT.out, ← hsb]
    by_cases h : (⟨ck, co, ca, cb, cf, cl, (p1, p2), (q1, q2), cn⟩ : Cm) = ⟨dk, do', da, db, df, dl, (r1, r2), (s1, s2), dn⟩
    · rw [if_pos (by rw [← h]), if_pos (decide_eq_true h)]
    · rw [if_neg (fun e => h (by injection e with e _; exact e.symm)), if_neg (by rw [decide_eq_false h]; decide)]
  have hf3 : Fr Nob w2 (w2.alloc (.cells #[.int .i64 dk, .int .i64 do', .int .i64 da, .int .i64 db, .bool df, .slice A2 m4 m2, .int .i64 r1, .int .i64 r2, .int .i64 s1, .int .i64 s2, .int .i64 dn] 32)) := (Fr.refl _ _).alloc _
  have HF4 := Lib.hid hf3
  clear hsb hf3
  go_wp2_with fail
  refine (HSm.out _ HF4.out).mono ?_
  rintro e w3 ⟨rfl, hf4⟩
  have HF5 := Lib.hid (HF3.out.trans hf4)
  clear hf4 HSm
  cases sb with
  | false =>
    have HTn : Hid (T = none) := HTs.out
    go_wp2
    go_ret2
    exact ⟨by rw [HTn.out]; rfl, HF5.out⟩
  | true =>
    have HTn : Hid (T = some L) := HTs.out
    go_wp2
    go_ret2
    exact ⟨by rw [HTn.out]; rfl, HF5.out⟩
end Go.Proofs.YtidohbhcjnmmeaaDoor
