/-
  sound, over any sectors that are.
-/
import Derived.Test.YtilclfeaolhoeaaDoorPgInv
namespace Go.Proofs.YtilclfeaolhoeaaDoor
set_option linter.unusedSimpArgs false
set_option linter.unusedVariables false
open Go.RowKit

/-- All pages of a file are whole, or noughts. -/
structure PSound (now : List (List UInt8)) (at0 pages : Nat) : Prop where
  s64 : ∀ (j : Nat) s, now[j]? = some s → s.length = 64
  len : at0 + 8 * pages + 80 ≤ now.length
  page : ∀ no, no < pages → (secN now (at0 + 8 * no) 8).all (· == 0) = true ∨ ((secN now (at0 + 8 * no) 8).all (· == 0) = false ∧ pgOk (secN now (at0 + 8 * no) 8) = true ∧ (pgX (secN now (at0 + 8 * no) 8)).no = no ∧ pgTurn (secN now (at0 + 8 * no) 8) = 0)
theorem PSound.l512 {now : List (List UInt8)} {at0 pages : Nat} (h : PSound now at0 pages) (no : Nat) (hn : no < pages) : (secN now (at0 + 8 * no) 8).length = 512 := by
  have := h.len
  rw [secN_length h.s64 _ 8 (by omega)]
theorem PSt.sound {now : List (List UInt8)} {at0 pages T : Nat} {lot : List PgV} {cur : Nat → Option PgV} (h : PSt now at0 pages T lot cur) : PSound now at0 pages := by
  refine ⟨h.s64, h.len, fun no hno => ?_⟩
  rw [h.page no hno]
  cases hc : cur no with
  | none => exact .inl (zeros_all 512)
  | some x =>
    obtain ⟨x1, x2⟩ := h.cok no x hno hc
    exact .inr ⟨img_some x 0 x1, img_ok x 0 x1 (by omega), by rw [show curB (some x) = imgB x 0 from rfl, img_x x 0 x1, x2], by rw [show curB (some x) = imgB x 0 from rfl, img_turn x 0 x1.d (by omega)]⟩

set_option maxHeartbeats 3200000 in
set_option maxRecDepth 100000 in
theorem sound_any {R : Nat → Prop} {w : World} {p d at0 pages turn : Nat} {S : DS} (h : FileAt w p d at0 pages turn) (hd : DiskOk R w d S) (hl : S.dead = false) (hp : PSound S.now at0 pages) :
    Calls Tryd.prog 28 #[.pointer (some ⟨p, 0, none⟩)] w fun e w' => e = .returned (.int .i64 0) ∧ Fr Nob w w' := by
  have H := Lib.hid h
  have hp0 := h.lt
  have c0 := h.cell 2
  simp only [List.getElem?_toArray, List.getElem?_cons_zero, List.getElem?_cons_succ] at c0
  have HD := Lib.hid hd
  have HP := Lib.hid hp
  have hsm := hd.small
  have hln := hp.len
  have HDead := Lib.hid hl
  clear h hd hl hp
  go_enter Tryd.func28, Tryd.ntmps28
  go_wp2
  go_step3
  go_wp2
  go_step3
  go_wp2
  go_loopw [3, 4, 5, 6, 7, 8, 9, 14, 29, 33] (fun wrong _ _ _ _ _ _ iv _ _ wr => ∃ k : Nat, k ≤ pages ∧ iv = .int .i64 k ∧ wrong = .int .i64 0 ∧ Hid (Fr Nob w wr)) (fun _ _ _ _ _ _ _ iv _ _ _ => pages - (intOf iv).toNat)
  case atStart => exact ⟨0, by omega, rfl, rfl, Fr.refl _ _⟩
  case round =>
    obtain ⟨k, hk, rfl, rfl, hF⟩ := hrel
    by_cases hlt : k < pages
    · have hfb := H.out.fr hF.out (fun h => h)
      have c1 := Blk.cell hfb 1
      have fp := Blk.lt hfb
      simp only [List.getElem?_toArray, List.getElem?_cons_zero, List.getElem?_cons_succ] at c1
      have hrd := pgRead8_any (at0 + 8 * k) hfb (HD.out.new hF.out) HDead.out (by omega) (by omega)
      rw [show ((at0 + 8 * k : Nat) : Int) = (at0 : Int) + 8 * (k : Int) from by omega] at hrd
      have HRd := Lib.hid hrd
      have HCl := Lib.hid (HP.out.l512 k hlt)
      have u1 : IntKind.i64.wrap (8 * (k : Int)) = 8 * (k : Int) := by rw [IntKind.wrap_i64]; omega
      have u2 : IntKind.i64.wrap ((at0 : Int) + 8 * (k : Int)) = (at0 : Int) + 8 * (k : Int) := by rw [IntKind.wrap_i64]; omega
      have HPg := Lib.hid (HP.out.page k hlt)
      obtain ⟨b, hb⟩ : ∃ b, secN S.now (at0 + 8 * k) 8 = b := ⟨_, rfl⟩
      rw [hb] at HRd HCl HPg
      clear hrd hfb hb
      go_wp2_with fail
      refine HRd.out.mono ?_
      rintro e w1 ⟨g1, cp1, rfl, hb1, hg1, hf1⟩
      have HB1 := Lib.hid hb1
      have HF1 : Hid (Fr Nob w w1) := hF.out.trans hf1
      have HNo := Lib.hid (none_any _ cp1 _ w1 hb1 HCl.out)
      clear hb1 hf1 HRd hF
      rcases HPg.out with hall | ⟨hall, hok, hno, htu⟩
      · have HNo : Hid (Calls Tryd.prog 35 #[.slice (some ⟨g1, 0, none⟩) 512 cp1] w1 fun e w' => e = .returned (.bool true) ∧ Fr Nob w1 w') := by
          have := HNo.out
          rw [hall] at this
          exact this
        clear hall HPg
        go_wp2_with fail
        refine HNo.out.mono ?_
        rintro e w2 ⟨rfl, hf2⟩
        have HF2 : Hid (Fr Nob w w2) := HF1.out.trans hf2
        clear hf2
        go_wp2
        go_roundw
        case rel => exact ⟨k + 1, by omega, by go_num, rfl, HF2.out⟩
        case measure => simp [intOf]; omega
      · have HNo : Hid (Calls Tryd.prog 35 #[.slice (some ⟨g1, 0, none⟩) 512 cp1] w1 fun e w' => e = .returned (.bool false) ∧ Fr Nob w1 w') := by
          have := HNo.out
          rw [hall] at this
          exact this
        have HPs : Hid (∀ W, Fr Nob w1 W → Calls Tryd.prog 36 #[.slice (some ⟨g1, 0, none⟩) 512 cp1] W fun e w' => ∃ g, e = .returned (.tuple #[.agg #[.int .i64 k, .int .u64 (pgX b).lsn, .slice (some ⟨g, 32, none⟩) 480 480], .int .u64 0, .bool true]) ∧ Fr Nob W w') := by
          intro W hW
          refine (pgParse_any _ cp1 _ W (HB1.out.new hW) HCl.out).mono ?_
          rintro e w' ⟨g, rfl, _, _, _, hf⟩
          refine ⟨g, ?_, hf⟩
          rw [hno, htu, hok]; rfl
        clear hall hok hno htu HPg
        go_wp2_with fail
        refine HNo.out.mono ?_
        rintro e w2 ⟨rfl, hf2⟩
        have HF2 : Hid (Fr Nob w1 w2) := hf2
        clear hf2
        go_wp2_with fail
        refine (HPs.out w2 HF2.out).mono ?_
        rintro e w3 ⟨g3, rfl, hf3⟩
        have HF3 : Hid (Fr Nob w w3) := (HF1.out.trans HF2.out).trans hf3
        have HFa : Hid (Fr Nob w (w3.alloc (.cells #[.int .i64 k, .int .u64 (pgX b).lsn, .slice (some ⟨g3, 32, none⟩) 480 480] 37))) := HF3.out.alloc _
        clear hf3
        go_wp2
        go_roundw
        case rel => exact ⟨k + 1, by omega, by go_num, rfl, HFa.out⟩
        case measure => simp [intOf]; omega
    · obtain rfl : k = pages := by omega
      go_wp2
      try rw [Exit.noGoto_ret]
      go_ret
      exact ⟨rfl, hF.out⟩
end Go.Proofs.YtilclfeaolhoeaaDoor
