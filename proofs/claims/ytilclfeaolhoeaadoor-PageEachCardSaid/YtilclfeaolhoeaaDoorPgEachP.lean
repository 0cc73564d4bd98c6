/-
  A Write of two pages of three in which the disk died: what stands there behind Open (plain).
-/
import Derived.Test.YtilclfeaolhoeaaDoorPgCrash
import Derived.Test.YtilclfeaolhoeaaDoorPgAwake
namespace Go.Proofs.YtilclfeaolhoeaaDoor
set_option linter.unusedSimpArgs false
set_option linter.unusedVariables false
open Go.RowKit

theorem Still.crash_now {S : DS} (keep : List Int) : (S.crash keep).now = setAll S.last (chosen keep S.waits) := rfl
/-- A place of which some sectors are old and some new. -/
theorem place_cases {P Q : PgV} {n m t u : Nat} {Z : List UInt8} (hP : P.d = dataB n) (hQ : Q.d = dataB m) (hI : Ind n m) (hZ : Z.length = 512)
    (hj : ∀ j, j < 8 → secL Z j = secL (imgB P t) j ∨ secL Z j = secL (imgB Q u) j) (hok : pgOk Z = true) : Z = imgB P t ∨ Z = imgB Q u := by
  rcases hj 0 (by omega) with h0 | h0
  · exact .inl (mix hP hQ hI hZ h0 (fun j _ h8 => hj j h8) hok)
  · exact .inr (mix hQ hP hI.symm hZ h0 (fun j _ h8 => (hj j h8).symm) hok)
structure Fin3 (now : List (List UInt8)) (X0 X1 X2 : PgV) : Prop where
  s64 : ∀ (j : Nat) s, now[j]? = some s → s.length = 64
  len : 104 ≤ now.length
  p0 : secN now 0 8 = imgB X0 0
  p1 : secN now 8 8 = imgB X1 0
  p2 : secN now 16 8 = imgB X2 0
theorem Fin3.sound {now : List (List UInt8)} {X0 X1 X2 : PgV} (h : Fin3 now X0 X1 X2) (h0 : X0.Ok ∧ X0.no = 0) (h1 : X1.Ok ∧ X1.no = 1) (h2 : X2.Ok ∧ X2.no = 2) : PSound now 0 3 ∧ pgAt now 0 0 = X0 ∧ pgAt now 0 1 = X1 ∧ pgAt now 0 2 = X2 := by
  have key : ∀ no (X : PgV), secN now (0 + 8 * no) 8 = imgB X 0 → X.Ok ∧ X.no = no → ((secN now (0 + 8 * no) 8).all (· == 0) = false ∧ pgOk (secN now (0 + 8 * no) 8) = true ∧ (pgX (secN now (0 + 8 * no) 8)).no = no ∧ pgTurn (secN now (0 + 8 * no) 8) = 0) ∧ pgAt now 0 no = X := by
    intro no X e hX
    rw [e]
    refine ⟨⟨img_some X 0 hX.1, img_ok X 0 hX.1 (by omega), by rw [img_x X 0 hX.1]; exact hX.2, img_turn X 0 hX.1.d (by omega)⟩, ?_⟩
    unfold pgAt
    rw [e, if_neg (by rw [img_some X 0 hX.1]; decide), img_x X 0 hX.1]
  have k0 := key 0 X0 h.p0 h0
  have k1 := key 1 X1 h.p1 h1
  have k2 := key 2 X2 h.p2 h2
  refine ⟨⟨h.s64, by have := h.len; omega, fun no hno => .inr ?_⟩, k0.2, k1.2, k2.2⟩
  rcases (by omega : no = 0 ∨ no = 1 ∨ no = 2) with rfl | rfl | rfl
  · exact k0.1
  · exact k1.1
  · exact k2.1

section
variable {now1 : List (List UInt8)} {cur1 : Nat → Option PgV} {P0 P1 P2 A B : PgV}
/-- What the Write is. -/
theorem each_ops : writeOps 0 3 2 [A, B] = ((((secOps 25 (imgB A 2) 8 ++ secOps 33 (imgB B 2) 8) ++ secOps 24 (lotB 2 2) 1) ++ [.fl]) ++ ((secOps (0 + 8 * A.no) (imgB A 0) 8 ++ secOps (0 + 8 * B.no) (imgB B 0) 8) ++ [.fl])) := rfl
set_option maxHeartbeats 6400000 in
set_option maxRecDepth 100000 in
theorem each_crash (hps : PSt now1 0 3 1 [P0, P1, P2] cur1) (hP0 : P0.d = dataB 1) (hP1 : P1.d = dataB 2) (hn0 : P0.no = 0) (hn1 : P1.no = 1) (hn2 : P2.no = 2)
    {a b : Nat} (hA : A.Ok) (hB : B.Ok) (hAn : A.no = 0) (hBn : B.no = 2) (hAd : A.d = dataB a) (hBd : B.d = dataB b) {S : DS} (hS : S.now = now1) (hl : S.last = S.now) (hw : S.waits = []) (keep : List Int) :
    ∃ hb X0 X2, ((runs S (writeOps 0 3 2 [A, B])).1.crash keep).now[24]? = some hb ∧ ((X0 = P0 ∧ X2 = P2 ∧ (runs S (writeOps 0 3 2 [A, B])).2 = 50) ∨ (X0 = A ∧ X2 = B ∧ ((runs S (writeOps 0 3 2 [A, B])).2 = 0 ∨ (runs S (writeOps 0 3 2 [A, B])).2 = 50))) ∧
      ((runs S (writeOps 0 3 2 [A, B])).1.crash keep).now.length = now1.length ∧
      Fin3 (layNow ((runs S (writeOps 0 3 2 [A, B])).1.crash keep).now 0 (lfRes ((runs S (writeOps 0 3 2 [A, B])).1.crash keep).now 24 3 hb) (lfRes ((runs S (writeOps 0 3 2 [A, B])).1.crash keep).now 24 3 hb).length) X0 P1 X2 := by
  have hlen := hps.len
  have hIA : Ind 1 a := ind_all 1 a (.inl rfl)
  have hIB : Ind 2 b := ind_all 2 b (.inr rfl)
  have hlA := imgB_length A 2 hA.d
  have hlB := imgB_length B 2 hB.d
  obtain ⟨hOk0, _, hc0⟩ := hps.lok P0 (.head _)
  obtain ⟨hOk1, _, hc1⟩ := hps.lok P1 (.tail _ (.head _))
  obtain ⟨hOk2, _, hc2⟩ := hps.lok P2 (.tail _ (.tail _ (.head _)))
  rw [hn0] at hc0
  rw [hn1] at hc1
  rw [hn2] at hc2
  have hpl : ∀ (j : Nat) (x : PgV), [P0, P1, P2][j]? = some x → secN now1 (25 + 8 * j) 8 = imgB x 1 := by
    intro j x hx
    have hj : j < 3 := by have := (List.getElem?_eq_some_iff.1 hx).1; simpa using this
    obtain ⟨q, q1, _, q3⟩ := hps.place j (by omega)
    rw [q3 x hx] at q1
    have : secN now1 (0 + 8 * 3 + 1 + 8 * j) 8 = plcB (some (x, 1)) := q1
    rw [show 25 + 8 * j = 0 + 8 * 3 + 1 + 8 * j from by omega]
    exact this
  have hpg : ∀ no, no < 3 → secN now1 (8 * no) 8 = curB (cur1 no) := fun no hno => by
    have := hps.page no hno
    rwa [Nat.zero_add] at this
  have hhd : now1[24]? = some (lotB 1 3) := hps.head
  have hcw := crash_cases (S := S) ((secOps 25 (imgB A 2) 8 ++ secOps 33 (imgB B 2) 8) ++ secOps 24 (lotB 2 2) 1) (secOps (0 + 8 * A.no) (imgB A 0) 8 ++ secOps (0 + 8 * B.no) (imgB B 0) 8)
    (noFl_append _ _ (noFl_append _ _ (noFl_sec _ _ _) (noFl_sec _ _ _)) (noFl_sec _ _ _)) (noFl_append _ _ (noFl_sec _ _ _) (noFl_sec _ _ _)) hl hw keep
  rw [← each_ops] at hcw
  obtain ⟨cr, hcr⟩ : ∃ cr, ((runs S (writeOps 0 3 2 [A, B])).1.crash keep).now = cr := ⟨_, rfl⟩
  rw [hcr] at hcw ⊢
  rw [hS] at hcw
  have hsz : ∀ (t : Nat) (b : List UInt8), b.length = 512 → t < 8 → (secL b t).length = 64 := fun t b hb ht => by
    unfold secL; rw [List.length_take, List.length_drop, hb]; omega
  rcases hcw with ⟨hcode, ys, hys, hnow⟩ | ⟨hcode, ys, hys, hnow⟩
  · -- ahead of the flush
    have hy : ∀ y ∈ ys, (∃ t, t < 8 ∧ y = (25 + t, secL (imgB A 2) t)) ∨ (∃ t, t < 8 ∧ y = (33 + t, secL (imgB B 2) t)) ∨ y = (24, lotB 2 2) := by
      intro y hy
      have := hys y hy
      rw [wrs_append, wrs_append, List.mem_append, List.mem_append] at this
      rcases this with (h | h) | h
      · exact .inl (wrs_sec _ _ _ _ h)
      · exact .inr (.inl (wrs_sec _ _ _ _ h))
      · obtain ⟨t, ht, e⟩ := wrs_sec _ _ _ _ h
        obtain rfl : t = 0 := by omega
        right; right
        rw [e]
        unfold secL
        rw [Nat.mul_zero, List.drop_zero, List.take_of_length_le (by rw [lotB_length]; omega)]
    have hlen3 : cr.length = now1.length := by rw [hnow, setAll_length]
    have hat : ∀ j, cr[j]? = now1[j]? ∨ ∃ y ∈ ys, y.1 = j ∧ cr[j]? = some y.2 := fun j => by rw [hnow]; exact setAll_at ys now1 j
    have h64 : ∀ (j : Nat) s, cr[j]? = some s → s.length = 64 := by
      intro j s hs
      rcases hat j with h | ⟨y, hyy, _, h⟩
      · rw [h] at hs; exact hps.s64 j s hs
      · rw [h] at hs
        injection hs with hs
        subst hs
        rcases hy y hyy with ⟨t, ht, rfl⟩ | ⟨t, ht, rfl⟩ | rfl
        · exact hsz t _ hlA ht
        · exact hsz t _ hlB ht
        · exact lotB_length 2 2
    have hother : ∀ j, (j < 24 ∨ 41 ≤ j) → cr[j]? = now1[j]? := by
      intro j hj
      rcases hat j with h | ⟨y, hyy, hyj, _⟩
      · exact h
      · exfalso
        rcases hy y hyy with ⟨t, ht, rfl⟩ | ⟨t, ht, rfl⟩ | rfl <;> dsimp only at hyj <;> omega
    have hz0 : ∀ j, j < 8 → secL (lfB cr 24 0) j = secL (imgB P0 1) j ∨ secL (lfB cr 24 0) j = secL (imgB A 2) j := by
      intro j hj
      have e1 := secL_sec h64 25 8 (by omega) j hj
      have e2 := secL_sec hps.s64 25 8 (by omega) j hj
      rw [show secN now1 25 8 = imgB P0 1 from hpl 0 P0 rfl] at e2
      show secL (secN cr 25 8) j = _ ∨ secL (secN cr 25 8) j = _
      rcases hat (25 + j) with h | ⟨y, hyy, hyj, h⟩
      · left; rw [h, e2] at e1; injection e1 with e1; exact e1.symm
      · right
        rw [h] at e1
        injection e1 with e1
        rw [← e1]
        rcases hy y hyy with ⟨t, ht, rfl⟩ | ⟨t, ht, rfl⟩ | rfl
        · dsimp only at hyj; rw [show t = j from by omega]
        · dsimp only at hyj; omega
        · dsimp only at hyj; omega
    have hz1 : ∀ j, j < 8 → secL (lfB cr 24 1) j = secL (imgB P1 1) j ∨ secL (lfB cr 24 1) j = secL (imgB B 2) j := by
      intro j hj
      have e1 := secL_sec h64 33 8 (by omega) j hj
      have e2 := secL_sec hps.s64 33 8 (by omega) j hj
      rw [show secN now1 33 8 = imgB P1 1 from hpl 1 P1 rfl] at e2
      show secL (secN cr 33 8) j = _ ∨ secL (secN cr 33 8) j = _
      rcases hat (33 + j) with h | ⟨y, hyy, hyj, h⟩
      · left; rw [h, e2] at e1; injection e1 with e1; exact e1.symm
      · right
        rw [h] at e1
        injection e1 with e1
        rw [← e1]
        rcases hy y hyy with ⟨t, ht, rfl⟩ | ⟨t, ht, rfl⟩ | rfl
        · dsimp only at hyj; omega
        · dsimp only at hyj; rw [show t = j from by omega]
        · dsimp only at hyj; omega
    have hz2 : lfB cr 24 2 = imgB P2 1 := by
      show secN cr 41 8 = _
      rw [secN_congr 41 8 (fun k hk => hother (41 + k) (.inr (by omega)))]
      exact hpl 2 P2 rfl
    have l0 : (lfB cr 24 0).length = 512 := secN_length h64 25 8 (by omega)
    have l1 : (lfB cr 24 1).length = 512 := secN_length h64 33 8 (by omega)
    have hpages : ∀ no, no < 3 → secN cr (0 + 8 * no) 8 = curB (cur1 no) := fun no hno => by
      rw [Nat.zero_add, secN_congr (8 * no) 8 (fun k hk => hother (8 * no + k) (.inl (by omega)))]
      exact hpg no hno
    have hfin : ∀ l : List PgV, (∀ x ∈ l, x.Ok ∧ x.no < 3) → ∀ X0 X2, curW cur1 l l.length 0 = some X0 → curW cur1 l l.length 1 = some P1 → curW cur1 l l.length 2 = some X2 → Fin3 (layNow cr 0 l l.length) X0 P1 X2 := by
      intro l hok X0 X2 e0 e1 e2
      have hk : ∀ no, no < 3 → secN (layNow cr 0 l l.length) (0 + 8 * no) 8 = curB (curW cur1 l l.length no) := fun no hno => layNow_page (pages := 3) hok (by omega) no hno (hpages no hno) l.length
      have k0 := hk 0 (by omega)
      have k1 := hk 1 (by omega)
      have k2 := hk 2 (by omega)
      rw [e0] at k0
      rw [e1] at k1
      rw [e2] at k2
      exact ⟨layNow_64 h64 (fun x hx => (hok x hx).1) l.length, by rw [layNow_length]; omega, k0, k1, k2⟩
    have hold : Fin3 (layNow cr 0 [] 0) P0 P1 P2 := hfin [] (fun x hx => by simp at hx) P0 P2 hc0 hc1 hc2
    -- the head
    have hhead : cr[24]? = some (lotB 1 3) ∨ cr[24]? = some (lotB 2 2) := by
      rcases hat 24 with h | ⟨y, hyy, hyj, h⟩
      · left; rw [h]; exact hhd
      · right
        rw [h]
        rcases hy y hyy with ⟨t, ht, rfl⟩ | ⟨t, ht, rfl⟩ | rfl
        · dsimp only at hyj; omega
        · dsimp only at hyj; omega
        · rfl
    rcases hhead with hh | hh
    · refine ⟨_, P0, P2, hh, .inl ⟨rfl, rfl, hcode⟩, hlen3, ?_⟩
      by_cases hw8 : lfWh cr 24 3 (lotB 1 3) 8 = true
      · have eN : lfN (lotB 1 3) = 3 := lot_n 1 3 (by omega)
        have eT : lfT (lotB 1 3) = 1 := lot_turn 1 3 (by omega)
        obtain ⟨a1, a2, _⟩ := lfWh_each 8 hw8 0 (by omega) (by omega)
        obtain ⟨b1, b2, _⟩ := lfWh_each 8 hw8 1 (by omega) (by omega)
        rw [eT] at a2 b2
        have z0 : lfB cr 24 0 = imgB P0 1 := by
          rcases place_cases hP0 hAd hIA l0 hz0 a1 with h | h
          · exact h
          · rw [h, img_turn A 2 hA.d (by omega)] at a2; omega
        have z1 : lfB cr 24 1 = imgB P1 1 := by
          rcases place_cases hP1 hBd hIB l1 hz1 b1 with h | h
          · exact h
          · rw [h, img_turn B 2 hB.d (by omega)] at b2; omega
        have er : lfRes cr 24 3 (lotB 1 3) = [P0, P1, P2] := by
          unfold lfRes
          rw [if_pos hw8, eN]
          show [pgX (lfB cr 24 0), pgX (lfB cr 24 1), pgX (lfB cr 24 2)] = _
          rw [z0, z1, hz2, img_x _ _ hOk0, img_x _ _ hOk1, img_x _ _ hOk2]
        rw [er]
        refine hfin [P0, P1, P2] (fun x hx => ⟨(hps.lok x hx).1, (hps.lok x hx).2.1⟩) P0 P2 ?_ ?_ ?_
        · show (if 0 = P2.no then some P2 else if 0 = P1.no then some P1 else if 0 = P0.no then some P0 else cur1 0) = some P0
          rw [hn0, hn1, hn2]; rfl
        · show (if 1 = P2.no then some P2 else if 1 = P1.no then some P1 else if 1 = P0.no then some P0 else cur1 1) = some P1
          rw [hn0, hn1, hn2]; rfl
        · show (if 2 = P2.no then some P2 else if 2 = P1.no then some P1 else if 2 = P0.no then some P0 else cur1 2) = some P2
          rw [hn0, hn1, hn2]; rfl
      · have er : lfRes cr 24 3 (lotB 1 3) = [] := by unfold lfRes; rw [if_neg hw8]
        rw [er]
        exact hold
    · by_cases hw8 : lfWh cr 24 3 (lotB 2 2) 8 = true
      · refine ⟨_, A, B, hh, .inr ⟨rfl, rfl, .inr hcode⟩, hlen3, ?_⟩
        have eN : lfN (lotB 2 2) = 2 := lot_n 2 2 (by omega)
        have eT : lfT (lotB 2 2) = 2 := lot_turn 2 2 (by omega)
        obtain ⟨a1, a2, _⟩ := lfWh_each 8 hw8 0 (by omega) (by omega)
        obtain ⟨b1, b2, _⟩ := lfWh_each 8 hw8 1 (by omega) (by omega)
        rw [eT] at a2 b2
        have z0 : lfB cr 24 0 = imgB A 2 := by
          rcases place_cases hP0 hAd hIA l0 hz0 a1 with h | h
          · rw [h, img_turn P0 1 hOk0.d (by omega)] at a2; omega
          · exact h
        have z1 : lfB cr 24 1 = imgB B 2 := by
          rcases place_cases hP1 hBd hIB l1 hz1 b1 with h | h
          · rw [h, img_turn P1 1 hOk1.d (by omega)] at b2; omega
          · exact h
        have er : lfRes cr 24 3 (lotB 2 2) = [A, B] := by
          unfold lfRes
          rw [if_pos hw8, eN]
          show [pgX (lfB cr 24 0), pgX (lfB cr 24 1)] = _
          rw [z0, z1, img_x _ _ hA, img_x _ _ hB]
        rw [er]
        refine hfin [A, B] (fun x hx => ?_) A B ?_ ?_ ?_
        · simp only [List.mem_cons, List.not_mem_nil, or_false] at hx
          rcases hx with rfl | rfl
          · exact ⟨hA, by omega⟩
          · exact ⟨hB, by omega⟩
        · show (if 0 = B.no then some B else if 0 = A.no then some A else cur1 0) = some A
          rw [hAn, hBn]; rfl
        · show (if 1 = B.no then some B else if 1 = A.no then some A else cur1 1) = some P1
          rw [hAn, hBn]; exact hc1
        · show (if 2 = B.no then some B else if 2 = A.no then some A else cur1 2) = some B
          rw [hAn, hBn]; rfl
      · refine ⟨_, P0, P2, hh, .inl ⟨rfl, rfl, hcode⟩, hlen3, ?_⟩
        have er : lfRes cr 24 3 (lotB 2 2) = [] := by unfold lfRes; rw [if_neg hw8]
        rw [er]
        exact hold
  · -- behind it
    have hW : nowOps now1 ((secOps 25 (imgB A 2) 8 ++ secOps 33 (imgB B 2) 8) ++ secOps 24 (lotB 2 2) 1) = wrNow (wrNow (wrNow now1 25 (imgB A 2) 8) 33 (imgB B 2) 8) 24 (lotB 2 2) 1 := by
      rw [nowOps_append, nowOps_append, nowOps_sec, nowOps_sec, nowOps_sec]
    rw [hW] at hnow
    obtain ⟨nw, hnw⟩ : ∃ nw, wrNow (wrNow (wrNow now1 25 (imgB A 2) 8) 33 (imgB B 2) 8) 24 (lotB 2 2) 1 = nw := ⟨_, rfl⟩
    have hlenw : nw.length = now1.length := by rw [← hnw, wrNow_length, wrNow_length, wrNow_length]
    have h64w : ∀ (j : Nat) s, nw[j]? = some s → s.length = 64 := by
      rw [← hnw]
      exact wrNow_64 (wrNow_64 (wrNow_64 hps.s64 (by rw [hlA]) 8 (Nat.le_refl _)) (by rw [hlB]) 8 (Nat.le_refl _)) (by rw [lotB_length]) 1 (Nat.le_refl _)
    have w0 : secN nw 25 8 = imgB A 2 := by
      rw [← hnw, secN_wr_other _ _ _ _ _ _ (by omega), secN_wr_other _ _ _ _ _ _ (by omega)]
      exact secN_wr _ _ _ 8 (by omega) hlA
    have w1 : secN nw 33 8 = imgB B 2 := by
      rw [← hnw, secN_wr_other _ _ _ _ _ _ (by omega)]
      exact secN_wr _ _ _ 8 (by rw [wrNow_length]; omega) hlB
    have wh : nw[24]? = some (lotB 2 2) := by
      rw [← hnw]
      have := wrNow_at (wrNow (wrNow now1 25 (imgB A 2) 8) 33 (imgB B 2) 8) 24 (lotB 2 2) 0 1 (by omega) (by rw [wrNow_length, wrNow_length]; omega)
      refine Eq.trans this ?_
      rw [Nat.mul_zero, List.drop_zero, List.take_of_length_le (by rw [lotB_length]; omega)]
    have wp : secN nw 8 8 = imgB P1 0 := by
      rw [← hnw, secN_wr_other _ _ _ _ _ _ (by omega), secN_wr_other _ _ _ _ _ _ (by omega), secN_wr_other _ _ _ _ _ _ (by omega)]
      have := hpg 1 (by omega)
      rw [hc1] at this
      exact this
    rw [hnw] at hnow
    have hlA0 := imgB_length A 0 hA.d
    have hlB0 := imgB_length B 0 hB.d
    have hy : ∀ y ∈ ys, (∃ t, t < 8 ∧ y = (t, secL (imgB A 0) t)) ∨ (∃ t, t < 8 ∧ y = (16 + t, secL (imgB B 0) t)) := by
      intro y hy
      have := hys y hy
      rw [wrs_append, List.mem_append, hAn, hBn] at this
      rcases this with h | h
      · obtain ⟨t, ht, e⟩ := wrs_sec _ _ _ _ h
        exact .inl ⟨t, ht, by rw [e]; simp⟩
      · obtain ⟨t, ht, e⟩ := wrs_sec _ _ _ _ h
        exact .inr ⟨t, ht, by rw [e]⟩
    have hlen3 : cr.length = now1.length := by rw [hnow, setAll_length, hlenw]
    have hat : ∀ j, cr[j]? = nw[j]? ∨ ∃ y ∈ ys, y.1 = j ∧ cr[j]? = some y.2 := fun j => by rw [hnow]; exact setAll_at ys nw j
    have h64 : ∀ (j : Nat) s, cr[j]? = some s → s.length = 64 := by
      intro j s hs
      rcases hat j with h | ⟨y, hyy, _, h⟩
      · rw [h] at hs; exact h64w j s hs
      · rw [h] at hs
        injection hs with hs
        subst hs
        rcases hy y hyy with ⟨t, ht, rfl⟩ | ⟨t, ht, rfl⟩
        · exact hsz t _ hlA0 ht
        · exact hsz t _ hlB0 ht
    have hother : ∀ j, (8 ≤ j ∧ j < 16 ∨ 24 ≤ j) → cr[j]? = nw[j]? := by
      intro j hj
      rcases hat j with h | ⟨y, hyy, hyj, _⟩
      · exact h
      · exfalso
        rcases hy y hyy with ⟨t, ht, rfl⟩ | ⟨t, ht, rfl⟩ <;> dsimp only at hyj <;> omega
    have z0 : lfB cr 24 0 = imgB A 2 := by
      show secN cr 25 8 = _
      rw [secN_congr 25 8 (fun k hk => hother (25 + k) (.inr (by omega)))]; exact w0
    have z1 : lfB cr 24 1 = imgB B 2 := by
      show secN cr 33 8 = _
      rw [secN_congr 33 8 (fun k hk => hother (33 + k) (.inr (by omega)))]; exact w1
    have hh : cr[24]? = some (lotB 2 2) := by rw [hother 24 (.inr (by omega))]; exact wh
    have hp1 : secN cr 8 8 = imgB P1 0 := by rw [secN_congr 8 8 (fun k hk => hother (8 + k) (.inl (by omega)))]; exact wp
    have eN : lfN (lotB 2 2) = 2 := lot_n 2 2 (by omega)
    have eT : lfT (lotB 2 2) = 2 := lot_turn 2 2 (by omega)
    have e3 : lfW0 (lotB 2 2) = true := by unfold lfW0; rw [eT, eN]; simp
    have hwh : ∀ k, lfWh cr 24 3 (lotB 2 2) k = true := by
      intro k
      induction k with
      | zero => exact e3
      | succ k ih =>
        unfold lfWh
        rw [eN, eT, ih]
        split
        · rename_i hk2
          rcases (by omega : k = 0 ∨ k = 1) with rfl | rfl
          · rw [z0, img_ok _ _ hA (by omega), img_turn _ _ hA.d (by omega), img_x _ _ hA, hAn]; rfl
          · rw [z1, img_ok _ _ hB (by omega), img_turn _ _ hB.d (by omega), img_x _ _ hB, hBn]; rfl
        · rfl
    have er : lfRes cr 24 3 (lotB 2 2) = [A, B] := by
      unfold lfRes
      rw [if_pos (hwh 8), eN]
      show [pgX (lfB cr 24 0), pgX (lfB cr 24 1)] = _
      rw [z0, z1, img_x _ _ hA, img_x _ _ hB]
    refine ⟨_, A, B, hh, .inr ⟨rfl, rfl, hcode⟩, hlen3, ?_⟩
    rw [er]
    have el : layNow cr 0 [A, B] [A, B].length = wrNow (wrNow cr 0 (imgB A 0) 8) 16 (imgB B 0) 8 := by
      show wrNow (wrNow cr (0 + 8 * A.no) (imgB A 0) 8) (0 + 8 * B.no) (imgB B 0) 8 = _
      rw [hAn, hBn]
    rw [el]
    refine ⟨wrNow_64 (wrNow_64 h64 (by rw [hlA0]) 8 (Nat.le_refl _)) (by rw [hlB0]) 8 (Nat.le_refl _), by rw [wrNow_length, wrNow_length]; omega, ?_, ?_, ?_⟩
    · rw [secN_wr_other _ _ _ _ _ _ (by omega)]
      exact secN_wr _ _ _ 8 (by omega) hlA0
    · rw [secN_wr_other _ _ _ _ _ _ (by omega), secN_wr_other _ _ _ _ _ _ (by omega)]
      exact hp1
    · exact secN_wr _ _ _ 8 (by rw [wrNow_length]; omega) hlB0
end
end Go.Proofs.YtilclfeaolhoeaaDoor
