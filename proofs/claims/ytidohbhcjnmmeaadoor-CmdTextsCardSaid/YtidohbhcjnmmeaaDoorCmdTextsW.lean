/-
  CmdTexts: any command has the line that is read as it, or none.
-/
import Derived.Test.YtidohbhcjnmmeaaDoorCmdParsesW
namespace Go.Proofs.YtidohbhcjnmmeaaDoor
set_option linter.unusedSimpArgs false
set_option linter.unusedVariables false
open Go.RowKit

theorem textC_parse {c : Cm} {L : List UInt8} (h : textC c = some L) : parseC L = (c, 0) := by
  unfold textC at h
  cases hf : tbl.find? (goodT c) with
  | none => rw [hf] at h; cases h
  | some x =>
    rw [hf] at h
    injection h with h
    subst h
    exact ((goodT_iff c x).1 (List.find?_some hf)).2.2.2.2
theorem textC_length {c : Cm} {L : List UInt8} (h : textC c = some L) : L.length ≤ 2000 := by
  have := textC_parse h
  unfold parseC at this
  by_cases h2 : 2000 < L.length
  · rw [if_pos h2] at this; injection this with _ this; exact absurd this (by decide)
  · omega

set_option maxHeartbeats 6400000 in
set_option maxRecDepth 100000 in
theorem CmdTexts_row (c : Cm) (v : Value) (w : World) (he : Env w) (hc : CmIn w c v) (hok : c.Ok) : Calls Tryd.prog 5 #[v] w fun e w' => e = .returned (.bool true) ∧ Fr Nob w w' := by
  have qP := len_Ps
  have HEn := Lib.hid he
  have HTx : Hid (c.line.length ≤ 1000000 → ∀ W, Fr Nob w W → Calls Tryd.prog 10 #[v] W fun e w' => TextRes (textC c) W e w') := fun hl W hW => Text_any c v W (he.new hW) (hc.new hW) hok hl
  have HCt : Hid (c.line.length ≤ 1000000 → ∀ W, Fr Nob w W → Calls Tryd.prog 14 #[v] W fun e w' => CTRes (textC c) W e w') := fun hl W hW => by
    rw [← text_eq]
    exact CText_any c v W (hc.new hW) hok hl
  have HTp : Hid (∀ L, textC c = some L → parseC L = (c, 0) ∧ L.length ≤ 2000) := fun L h => ⟨textC_parse h, textC_length h⟩
  obtain ⟨T, hT⟩ : ∃ T, textC c = T := ⟨_, rfl⟩
  rw [hT] at HTx HCt HTp
  have HCs : Hid (∀ W v2, Fr Nob w W → CmIn W c v2 → c.line.length ≤ 1000000 → Calls Tryd.prog 13 #[v, v2] W fun e w' => e = .returned (.bool true) ∧ Fr Nob W w') := fun W v2 hW h2 hl => SameCmd_self (hc.new hW) h2 hl
  obtain ⟨A, m, rfl, hm, hpt⟩ := hc
  obtain ⟨C, hC⟩ : ∃ C, c = C := ⟨_, rfl⟩
  rw [hC] at HTx HCt HTp HCs hm ⊢
  clear hC hok hpt he hT
  obtain ⟨ck, co, ca, cb, cf, cl, ⟨p1, p2⟩, ⟨q1, q2⟩, cn⟩ := C
  unfold Cm.v at HTx HCt HCs ⊢
  dsimp only at hm HTx HCt HCs ⊢
  obtain ⟨M, hM⟩ : ∃ M, cl.length = M := ⟨_, rfl⟩
  have HM := Lib.hid hM
  rw [hM] at hm HTx HCt HCs ⊢
  clear hM
  have hbC : Blk (w.alloc (.cells #[.int .i64 ck, .int .i64 co, .int .i64 ca, .int .i64 cb, .bool cf, .slice A M m, .int .i64 p1, .int .i64 p2, .int .i64 q1, .int .i64 q2, .int .i64 cn] 32)) w.heap.size 32 #[.int .i64 ck, .int .i64 co, .int .i64 ca, .int .i64 cb, .bool cf, .slice A M m, .int .i64 p1, .int .i64 p2, .int .i64 q1, .int .i64 q2, .int .i64 cn] := Blk.new w _ _
  have HbC := Lib.hid hbC
  have HF0 : Hid (Fr Nob w (w.alloc (.cells #[.int .i64 ck, .int .i64 co, .int .i64 ca, .int .i64 cb, .bool cf, .slice A M m, .int .i64 p1, .int .i64 p2, .int .i64 q1, .int .i64 q2, .int .i64 cn] 32))) := (Fr.refl _ _).alloc _
  clear hbC
  go_enter Tryd.func5, Tryd.ntmps5
  by_cases h80 : 80 < M
  · have k80 : (80 : Int) < (M : Int) := by omega
    have HAw := Lib.hid (awake_any _ (HEn.out.new HF0.out))
    go_wp2_with fail
    refine HAw.out.mono ?_
    rintro e w1 ⟨rfl, hf1⟩
    have HF1 := Lib.hid (HF0.out.trans hf1)
    clear hf1
    go_wp2
    go_ret
    exact ⟨rfl, HF1.out⟩
  have k80 : ¬ (80 : Int) < (M : Int) := by omega
  have hM6 : M ≤ 1000000 := by omega
  have HTx2 := Lib.hid (HTx.out hM6)
  have HCt2 := Lib.hid (HCt.out hM6)
  clear HTx HCt h80
  cases T with
  | none =>
    have HTx3 : Hid (∀ W, Fr Nob w W → Calls Tryd.prog 10 #[.agg #[.int .i64 ck, .int .i64 co, .int .i64 ca, .int .i64 cb, .bool cf, .slice A M m, .int .i64 p1, .int .i64 p2, .int .i64 q1, .int .i64 q2, .int .i64 cn]] W fun e w' => e = .returned (.tuple #[.string (tx []), .int .i64 1]) ∧ Fr Nob W w') := HTx2
    have HCt3 : Hid (∀ W, Fr Nob w W → Calls Tryd.prog 14 #[.agg #[.int .i64 ck, .int .i64 co, .int .i64 ca, .int .i64 cb, .bool cf, .slice A M m, .int .i64 p1, .int .i64 p2, .int .i64 q1, .int .i64 q2, .int .i64 cn]] W fun e w' => e = .returned (.tuple #[.string (tx []), .bool false]) ∧ Fr Nob W w') := HCt2
    clear HTx2 HCt2
    go_wp2_with fail
    refine (HTx3.out _ HF0.out).mono ?_
    rintro e w1 ⟨rfl, hf1⟩
    have HF1 := Lib.hid (HF0.out.trans hf1)
    have hb1 := HbC.out.fr hf1 (fun h => h)
    have HbC1 := Lib.hid hb1
    have d0 := hb1.cell 0
    have d1 := hb1.cell 1
    have d2 := hb1.cell 2
    have d3 := hb1.cell 3
    have d4 := hb1.cell 4
    have d5 := hb1.cell 5
    have d6 := hb1.cell 6
    have d7 := hb1.cell 7
    have d8 := hb1.cell 8
    have d9 := hb1.cell 9
    have d10 := hb1.cell 10
    have hz1 := hb1.lt
    simp only [List.getElem?_toArray, List.getElem?_cons_zero, List.getElem?_cons_succ] at d0 d1 d2 d3 d4 d5 d6 d7 d8 d9 d10
    clear hf1 hb1 HTx3
    go_wp2_with fail
    refine (HCt3.out _ HF1.out).mono ?_
    rintro e w2 ⟨rfl, hf2⟩
    have HF2 := Lib.hid (HF1.out.trans hf2)
    have hb2 := HbC1.out.fr hf2 (fun h => h)
    have HbC2 := Lib.hid hb2
    clear hf2 hb2 HCt3 d0 d1 d2 d3 d4 d5 d6 d7 d8 d9 d10
    have HAw := Lib.hid (awake_any _ (HEn.out.new HF2.out))
    have hem : (tx ([] : List UInt8)).toList.isEmpty = true := by rw [Lib.toList_data]; rfl
    go_wp2_with fail
    refine HAw.out.mono ?_
    rintro e w3 ⟨rfl, hf3⟩
    have HF3 := Lib.hid (HF2.out.trans hf3)
    clear hf3
    go_wp2
    go_ret
    exact ⟨rfl, HF3.out⟩
  | some L =>
    have HTx3 : Hid (∀ W, Fr Nob w W → Calls Tryd.prog 10 #[.agg #[.int .i64 ck, .int .i64 co, .int .i64 ca, .int .i64 cb, .bool cf, .slice A M m, .int .i64 p1, .int .i64 p2, .int .i64 q1, .int .i64 q2, .int .i64 cn]] W fun e w' => e = .returned (.tuple #[.string (tx L), .int .i64 0]) ∧ Fr Nob W w') := HTx2
    have HCt3 : Hid (∀ W, Fr Nob w W → Calls Tryd.prog 14 #[.agg #[.int .i64 ck, .int .i64 co, .int .i64 ca, .int .i64 cb, .bool cf, .slice A M m, .int .i64 p1, .int .i64 p2, .int .i64 q1, .int .i64 q2, .int .i64 cn]] W fun e w' => e = .returned (.tuple #[.string (tx L), .bool true]) ∧ Fr Nob W w') := HCt2
    clear HTx2 HCt2
    go_wp2_with fail
    refine (HTx3.out _ HF0.out).mono ?_
    rintro e w1 ⟨rfl, hf1⟩
    have HF1 := Lib.hid (HF0.out.trans hf1)
    have hb1 := HbC.out.fr hf1 (fun h => h)
    have HbC1 := Lib.hid hb1
    have d0 := hb1.cell 0
    have d1 := hb1.cell 1
    have d2 := hb1.cell 2
    have d3 := hb1.cell 3
    have d4 := hb1.cell 4
    have d5 := hb1.cell 5
    have d6 := hb1.cell 6
    have d7 := hb1.cell 7
    have d8 := hb1.cell 8
    have d9 := hb1.cell 9
    have d10 := hb1.cell 10
    have hz1 := hb1.lt
    simp only [List.getElem?_toArray, List.getElem?_cons_zero, List.getElem?_cons_succ] at d0 d1 d2 d3 d4 d5 d6 d7 d8 d9 d10
    clear hf1 hb1 HTx3
    go_wp2_with fail
    refine (HCt3.out _ HF1.out).mono ?_
    rintro e w2 ⟨rfl, hf2⟩
    have HF2 := Lib.hid (HF1.out.trans hf2)
    have hb2 := HbC1.out.fr hf2 (fun h => h)
    have HbC2 := Lib.hid hb2
    clear hf2 hb2 HCt3 d0 d1 d2 d3 d4 d5 d6 d7 d8 d9 d10
    obtain ⟨hpL, hlL⟩ := HTp.out L rfl
    have HPs : Hid (∀ U, Fr Nob w U → Calls Tryd.prog 9 #[.string (tx L)] U fun e w' => ∃ v, e = .returned (.tuple #[v, .int .i64 0]) ∧ CmIn w' ⟨ck, co, ca, cb, cf, cl, (p1, p2), (q1, q2), cn⟩ v ∧ Fr Nob U w') := by
      intro U hU
      have := Parse_any (tx L) U (HEn.out.new hU) (by show L.length ≤ _; omega)
      rw [bs_tx, hpL] at this
      exact this
    have hss : ((tx L).toList == (tx L).toList) = true := by simp
    clear hpL
    go_wp2_with fail
    refine (HPs.out _ HF2.out).mono ?_
    rintro e w3 ⟨v, rfl, ⟨A2, m2, hv, hm2, hp2⟩, hf3⟩
    unfold Cm.v at hv
    dsimp only at hv hm2 hp2
    subst hv
    rw [HM.out] at hm2 ⊢
    have HP2 := Lib.hid hp2
    have HF3 := Lib.hid (HF2.out.trans hf3)
    have hb1 := HbC2.out.fr hf3 (fun h => h)
    have d0 := hb1.cell 0
    have d1 := hb1.cell 1
    have d2 := hb1.cell 2
    have d3 := hb1.cell 3
    have d4 := hb1.cell 4
    have d5 := hb1.cell 5
    have d6 := hb1.cell 6
    have d7 := hb1.cell 7
    have d8 := hb1.cell 8
    have d9 := hb1.cell 9
    have d10 := hb1.cell 10
    have hz3 := hb1.lt
    simp only [List.getElem?_toArray, List.getElem?_cons_zero, List.getElem?_cons_succ] at d0 d1 d2 d3 d4 d5 d6 d7 d8 d9 d10
    have HFb : Hid (Fr Nob w3 (w3.alloc (.cells #[.int .i64 ck, .int .i64 co, .int .i64 ca, .int .i64 cb, .bool cf, .slice A2 M m2, .int .i64 p1, .int .i64 p2, .int .i64 q1, .int .i64 q2, .int .i64 cn] 32))) := (Fr.refl _ _).alloc _
    have HSm : Hid (∀ U, Fr Nob w3 U → Calls Tryd.prog 13 #[.agg #[.int .i64 ck, .int .i64 co, .int .i64 ca, .int .i64 cb, .bool cf, .slice A M m, .int .i64 p1, .int .i64 p2, .int .i64 q1, .int .i64 q2, .int .i64 cn], .agg #[.int .i64 ck, .int .i64 co, .int .i64 ca, .int .i64 cb, .bool cf, .slice A2 M m2, .int .i64 p1, .int .i64 p2, .int .i64 q1, .int .i64 q2, .int .i64 cn]] U fun e w' => e = .returned (.bool true) ∧ Fr Nob U w') := by
      intro U hU
      exact HCs.out U _ (HF3.out.trans hU) ⟨A2, m2, by rw [← HM.out]; rfl, by show cl.length ≤ m2; rw [HM.out]; exact hm2, HP2.out.new hU⟩ hM6
    clear hb1 hp2 hf3 HPs
    go_wp2_with fail
    refine (HSm.out _ HFb.out).mono ?_
    rintro e w4 ⟨rfl, hf4⟩
    have HF4 := Lib.hid ((HF3.out.trans HFb.out).trans hf4)
    have HAw := Lib.hid (awake_any w4 (HEn.out.new HF4.out))
    clear hf4 HSm
    go_wp2_with fail
    refine HAw.out.mono ?_
    rintro e w5 ⟨rfl, hf5⟩
    have HF5 := Lib.hid (HF4.out.trans hf5)
    clear hf5
    go_wp2
    go_ret
    exact ⟨rfl, HF5.out⟩
end Go.Proofs.YtidohbhcjnmmeaaDoor
