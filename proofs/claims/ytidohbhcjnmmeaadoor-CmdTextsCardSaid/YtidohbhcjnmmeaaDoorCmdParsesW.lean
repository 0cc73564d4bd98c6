/-
  CmdParses: any bytes are the command that the document says, or refused.
-/
import Derived.Test.YtidohbhcjnmmeaaDoorCmdAwake
namespace Go.Proofs.YtidohbhcjnmmeaaDoor
set_option linter.unusedSimpArgs false
set_option linter.unusedVariables false
open Go.RowKit

/-- SameCmd of a command and itself. -/
theorem SameCmd_self {c : Cm} {v u : Value} {w : World} (h1 : CmIn w c v) (h2 : CmIn w c u) (hl : c.line.length ≤ 1000000) :
    Calls Tryd.prog 13 #[v, u] w fun e w' => e = .returned (.bool true) ∧ Fr Nob w w' := by
  obtain ⟨A, m, rfl, _, hp1⟩ := h1
  obtain ⟨B, n, rfl, _, hp2⟩ := h2
  refine (SameCmd_any c c A B m n w hp1 hp2 hl hl).mono ?_
  rintro e w' ⟨rfl, hf⟩
  exact ⟨by rw [decide_eq_true rfl], hf⟩

set_option maxHeartbeats 6400000 in
set_option maxRecDepth 100000 in
theorem CmdParses_row (s : ByteArray) (w : World) (he : Env w) (hs : s.size ≤ 140737488351232) : Calls Tryd.prog 4 #[.string s] w fun e w' => e = .returned (.bool true) ∧ Fr Nob w w' := by
  obtain ⟨P, hP⟩ : ∃ P, parseC (bs s) = P := ⟨_, rfl⟩
  have HC := Lib.hid (Parse_any s w he hs)
  have HR : Hid (∀ W, Calls Tryd.prog 12 #[.string s] W fun e w' => RPRes P W e w') := fun W => by
    have := RParse_any (bs s) W hs
    rw [tx_bs, hP] at this
    exact this
  have hPl : P.1.line.length ≤ 1000000 := by rw [← hP]; exact parseC_line _
  rw [hP] at HC
  have HEn := Lib.hid he
  clear hP he
  obtain ⟨⟨ak, ao, aa, ab, af, al, ⟨ap1, ap2⟩, ⟨aq1, aq2⟩, an⟩, er⟩ := P
  dsimp only at hPl HC
  go_enter Tryd.func4, Tryd.ntmps4
  go_wp2_with fail
  refine HC.out.mono ?_
  rintro e w1 ⟨v, rfl, ⟨A, ca, hv, hm, hp1⟩, hf1⟩
  unfold Cm.v at hv
  dsimp only at hv hm hp1
  subst hv
  obtain ⟨m, hm'⟩ : ∃ m, al.length = m := ⟨_, rfl⟩
  have HM := Lib.hid hm'
  rw [hm'] at hPl hm ⊢
  have HP1 := Lib.hid hp1
  have HF1 := Lib.hid hf1
  have hbA : Blk (w1.alloc (.cells #[.int .i64 ak, .int .i64 ao, .int .i64 aa, .int .i64 ab, .bool af, .slice A m ca, .int .i64 ap1, .int .i64 ap2, .int .i64 aq1, .int .i64 aq2, .int .i64 an] 32)) w1.heap.size 32 #[.int .i64 ak, .int .i64 ao, .int .i64 aa, .int .i64 ab, .bool af, .slice A m ca, .int .i64 ap1, .int .i64 ap2, .int .i64 aq1, .int .i64 aq2, .int .i64 an] := Blk.new w1 _ _
  have HbA := Lib.hid hbA
  have HFa : Hid (Fr Nob w1 (w1.alloc (.cells #[.int .i64 ak, .int .i64 ao, .int .i64 aa, .int .i64 ab, .bool af, .slice A m ca, .int .i64 ap1, .int .i64 ap2, .int .i64 aq1, .int .i64 aq2, .int .i64 an] 32))) := (Fr.refl _ _).alloc _
  clear hm' hp1 hf1 HC hbA
  go_wp2_with fail
  refine (HR.out _).mono ?_
  rintro e w2 ⟨v, rfl, ⟨B, cb, hv, hn, hp2⟩, hf2⟩
  unfold Cm.v at hv
  dsimp only at hv hn hp2
  subst hv
  rw [HM.out] at hn ⊢
  have HP2 := Lib.hid hp2
  have HF2 := Lib.hid hf2
  have hb := HbA.out.fr hf2 (fun h => h)
  have d0 := hb.cell 0
  have d1 := hb.cell 1
  have d2 := hb.cell 2
  have d3 := hb.cell 3
  have d4 := hb.cell 4
  have d5 := hb.cell 5
  have d6 := hb.cell 6
  have d7 := hb.cell 7
  have d8 := hb.cell 8
  have d9 := hb.cell 9
  have d10 := hb.cell 10
  have hz := hb.lt
  simp only [List.getElem?_toArray, List.getElem?_cons_zero, List.getElem?_cons_succ] at d0 d1 d2 d3 d4 d5 d6 d7 d8 d9 d10
  have HFb : Hid (Fr Nob w2 (w2.alloc (.cells #[.int .i64 ak, .int .i64 ao, .int .i64 aa, .int .i64 ab, .bool af, .slice B m cb, .int .i64 ap1, .int .i64 ap2, .int .i64 aq1, .int .i64 aq2, .int .i64 an] 32))) := (Fr.refl _ _).alloc _
  have HSm : Hid (∀ U, Fr Nob w2 U → Calls Tryd.prog 13 #[.agg #[.int .i64 ak, .int .i64 ao, .int .i64 aa, .int .i64 ab, .bool af, .slice A m ca, .int .i64 ap1, .int .i64 ap2, .int .i64 aq1, .int .i64 aq2, .int .i64 an], .agg #[.int .i64 ak, .int .i64 ao, .int .i64 aa, .int .i64 ab, .bool af, .slice B m cb, .int .i64 ap1, .int .i64 ap2, .int .i64 aq1, .int .i64 aq2, .int .i64 an]] U fun e w' => e = .returned (.bool true) ∧ Fr Nob U w') := by
    intro U hU
    exact SameCmd_self (c := ⟨ak, ao, aa, ab, af, al, (ap1, ap2), (aq1, aq2), an⟩) ⟨A, ca, by rw [← HM.out]; rfl, by show al.length ≤ ca; rw [HM.out]; exact hm, ((HP1.out.new HFa.out).new HF2.out).new hU⟩ ⟨B, cb, by rw [← HM.out]; rfl, by show al.length ≤ cb; rw [HM.out]; exact hn, HP2.out.new hU⟩ (by show al.length ≤ _; rw [HM.out]; exact hPl)
  have hkb : (er == er) = true := by simp
  clear hb hp2 hf2 HR
  go_wp2_with fail
  refine (HSm.out _ HFb.out).mono ?_
  rintro e w3 ⟨rfl, hf3⟩
  have HF3 := Lib.hid ((((HF1.out.trans HFa.out).trans HF2.out).trans HFb.out).trans hf3)
  have HAw := Lib.hid (awake_any w3 (HEn.out.new HF3.out))
  clear hf3 HSm
  go_wp2_with fail
  refine HAw.out.mono ?_
  rintro e w4 ⟨rfl, hf4⟩
  have HF4 := Lib.hid (HF3.out.trans hf4)
  clear hf4
  go_wp2
  go_ret
  exact ⟨rfl, HF4.out⟩
end Go.Proofs.YtidohbhcjnmmeaaDoor
