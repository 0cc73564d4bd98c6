/-
  Commands, plain: the code's line of a command is the reference's.
-/
import Derived.Test.YtidohbhcjnmmeaaDoorCmdRef6
namespace Go.Proofs.YtidohbhcjnmmeaaDoor
set_option linter.unusedSimpArgs false
set_option linter.unusedVariables false

theorem dec_val2 : ∀ u : Nat, digVal (Lib.decDigits u) = u ∧ ∀ c ∈ Lib.decDigits u, isDig c := by
  intro u
  induction u using Nat.strongRecOn with
  | ind u ih =>
    rw [Lib.decDigits.eq_1]
    split
    · rename_i h
      have := toNat_dig u h
      refine ⟨?_, ?_⟩
      · simp only [digVal, List.foldl_cons, List.foldl_nil, this]; omega
      · intro c hc
        rw [List.mem_singleton.1 hc]
        exact ⟨by omega, by omega⟩
    · rename_i h
      obtain ⟨i1, i2⟩ := ih (u / 10) (by omega)
      have := toNat_dig (u % 10) (by omega)
      refine ⟨?_, ?_⟩
      · rw [digVal_snoc, i1, this]; omega
      · intro c hc
        rcases List.mem_append.1 hc with h' | h'
        · exact i2 c h'
        · rw [List.mem_singleton.1 h']; exact ⟨by omega, by omega⟩
theorem dec_inj {u v : Nat} (h : Lib.decDigits u = Lib.decDigits v) : u = v := by rw [← (dec_val2 u).1, h, (dec_val2 v).1]
theorem itoa_cases (n : Int) : (∃ u : Nat, n = u ∧ Lib.itoa n = Lib.decDigits u) ∨ (∃ u : Nat, u ≠ 0 ∧ n = -(u : Int) ∧ Lib.itoa n = 45 :: Lib.decDigits u) := by
  by_cases h : 0 ≤ n
  · obtain ⟨u, rfl⟩ : ∃ u : Nat, n = u := ⟨n.toNat, by omega⟩
    exact .inl ⟨u, rfl, itoa_nat u⟩
  · obtain ⟨u, rfl⟩ : ∃ u : Nat, n = -(u : Int) := ⟨n.natAbs, by omega⟩
    exact .inr ⟨u, by omega, rfl, itoa_neg u (by omega)⟩
theorem itoa_inj {n m : Int} (h : Lib.itoa n = Lib.itoa m) : n = m := by
  rcases itoa_cases n with ⟨u, e, hu⟩ | ⟨u, hu0, e, hu⟩ <;> rcases itoa_cases m with ⟨v, e2, hv⟩ | ⟨v, hv0, e2, hv⟩
  · rw [hu, hv] at h; rw [e, e2, dec_inj h]
  · rw [hu, hv] at h
    have := (dec_val2 u).2 45 (by rw [h]; simp)
    exact absurd this (by decide)
  · rw [hu, hv] at h
    have := (dec_val2 v).2 45 (by rw [← h]; simp)
    exact absurd this (by decide)
  · rw [hu, hv] at h
    injection h with _ h
    rw [e, e2, dec_inj h]
theorem itoa_blank (n : Int) : 32 ∉ Lib.itoa n := by
  intro h
  rcases itoa_cases n with ⟨u, _, hu⟩ | ⟨u, _, _, hu⟩
  · rw [hu] at h; exact absurd ((dec_val2 u).2 32 h) (by decide)
  · rw [hu] at h
    rcases List.mem_cons.1 h with h | h
    · exact absurd h (by decide)
    · exact absurd ((dec_val2 u).2 32 h) (by decide)
theorem ln_cons (w : List UInt8) (n : Int) (ns : List Int) : ln w (n :: ns) = w ++ 32 :: ln (Lib.itoa n) ns := by simp [ln]
theorem spl_ln : ∀ (ns : List Int) (w : List UInt8), 32 ∉ w → spl (ln w ns) = w :: ns.map Lib.itoa
  | [], w, h => by rw [ln_nil, spl_last w h]; rfl
  | n :: ns, w, h => by rw [ln_cons, spl_word w h, spl_ln ns _ (itoa_blank n)]; rfl
theorem numC_itoa {n m : Int} (h : numC (Lib.itoa n) = some m) : m = n := by
  unfold numC at h
  split at h
  · cases h
  · split at h
    · split at h
      · rename_i v _ e
        injection h with h
        subst h
        exact itoa_inj e
      · cases h
    · cases h
theorem numsC_itoa : ∀ {ns ms : List Int}, numsC (ns.map Lib.itoa) = some ms → ms = ns
  | [], ms, h => by simp only [List.map_nil, numsC, Option.some.injEq] at h; exact h.symm
  | n :: ns, ms, h => by
    simp only [List.map_cons, numsC] at h
    split at h
    · rename_i a b ha hb
      injection h with h
      rw [← h, numC_itoa ha, numsC_itoa hb]
    · cases h
theorem tbl_blank : ∀ x ∈ tbl, 32 ∉ x.word := by decide
theorem tbl_find : ∀ x ∈ tbl, tbl.find? (fun y => decide (y.word = x.word)) = some x := by
  intro x hx
  simp only [tbl, List.mem_cons, List.not_mem_nil, or_false] at hx
  rcases hx with rfl | rfl | rfl | rfl | rfl | rfl | rfl | rfl | rfl | rfl | rfl | rfl | rfl | rfl | rfl | rfl | rfl | rfl | rfl | rfl | rfl | rfl | rfl | rfl <;> rfl
theorem tbl_word_inj {x y : Shp} (hx : x ∈ tbl) (hy : y ∈ tbl) (h : x.word = y.word) : x = y := by
  have h1 := tbl_find x hx
  rw [h, tbl_find y hy] at h1
  injection h1 with h1
  exact h1.symm
theorem tbl_triple : ∀ x ∈ tbl, ∀ y ∈ tbl, (x.kind = y.kind ∧ x.op = y.op ∧ x.fresh = y.fresh) → x.word = y.word := by decide
theorem tbl_in_R : ∀ x ∈ tbl, ∃ y ∈ tblR, y.word = x.word := by decide
theorem tblR_of_tbl {x : Shp} (hx : x ∈ tbl) : x ∈ tblR := by
  obtain ⟨y, hy, e⟩ := tbl_in_R x hx
  rw [← tbl_word_inj (tblR_mem y hy) hx e]
  exact hy
/-- A line of a word of the table and numbers. -/
theorem parse_ln {x : Shp} (hx : x ∈ tbl) {ns : List Int} {c : Cm} (h : parseC (ln x.word ns) = (c, 0)) : x.fits ns.length = true ∧ x.made ns = c := by
  unfold parseC at h
  split at h
  · injection h with _ h; exact absurd h (by decide)
  · rw [spl_ln ns _ (tbl_blank x hx), List.headD_cons, List.tail_cons, tbl_find x hx] at h
    dsimp only at h
    split at h
    · injection h with _ h; exact absurd h (by decide)
    · rename_i ms hms
      rw [numsC_itoa hms] at h
      split at h
      · rename_i hf
        injection h with h _
        exact ⟨hf, h⟩
      · injection h with _ h; exact absurd h (by decide)
theorem numsR_1 {x : Shp} (c : Cm) (h : x.kind = 1) : numsR x c = [c.a, c.b].take x.n ++ flat (c.line.take 65) := by unfold numsR; rw [if_pos h, if_pos (.inl h)]
theorem numsR_0 {x : Shp} (c : Cm) (h : x.kind ≠ 1) (h0 : x.p = 0) : numsR x c = [c.n].take x.n ++ flat (c.line.take 65) := by unfold numsR; rw [if_neg h, if_pos (.inr h0)]
theorem numsR_p {x : Shp} (c : Cm) (h : x.kind ≠ 1) (h0 : x.p ≠ 0) : numsR x c = [c.n].take x.n ++ flat ([c.p, c.q].take x.p) := by unfold numsR; rw [if_neg h, if_neg (by rintro (h' | h'); exact h h'; exact h0 h')]
theorem numsT_3 {x : Shp} (c : Cm) (h : x.kind = 1) (h3 : ¬ x.p < 3) : numsT x c = [c.a, c.b].take x.n ++ flat c.line := by unfold numsT; rw [if_pos h, if_pos h, if_neg h3]
theorem numsT_2 {x : Shp} (c : Cm) (h : x.kind = 1) (h3 : x.p < 3) : numsT x c = [c.a, c.b].take x.n ++ flat (c.line.take x.p) := by unfold numsT; rw [if_pos h, if_pos h, if_pos h3]
theorem numsT_0 {x : Shp} (c : Cm) (h : x.kind ≠ 1) : numsT x c = [c.n].take x.n ++ flat ([c.p, c.q].take x.p) := by unfold numsT; rw [if_neg h, if_neg h]
theorem made_line {x : Shp} {ns : List Int} (h : x.kind ≠ 1) : (x.made ns).line = [] := by unfold Shp.made; rw [if_neg h]
theorem made_line1 {x : Shp} {ns : List Int} (h : x.kind = 1) : (x.made ns).line = prs (ns.drop x.n) := by unfold Shp.made; rw [if_pos h]
theorem keyR {x : Shp} (hx : x ∈ tbl) {c : Cm} (h : parseC (ln x.word (numsR x c)) = (c, 0)) : c.line.length ≤ 64 ∧ numsR x c = numsT x c := by
  obtain ⟨hf, hm⟩ := parse_ln hx h
  have hk := (tbl_kinds x hx).1
  by_cases h1 : x.kind = 1
  · have hn2 : x.n ≤ 2 := by rcases hk with h | h | h; exact h.2.1; exact h.2.1; exact absurd h1 h.1
    have e := numsR_1 c h1
    have hlen : (numsR x c).length = x.n + 2 * min 65 c.line.length := by
      rw [e, List.length_append, flat_length, List.length_take, List.length_take]
      simp only [List.length_cons, List.length_nil]
      omega
    rw [hlen] at hf
    unfold Shp.fits at hf
    by_cases h3 : x.p = 3
    · rw [if_pos h3] at hf
      have hf := of_decide_eq_true hf
      refine ⟨by omega, ?_⟩
      rw [e, numsT_3 c h1 (by omega), List.take_of_length_le (l := c.line) (by omega)]
    · rw [if_neg h3] at hf
      have hf := of_decide_eq_true hf
      have hp : x.p < 3 := by have := tbl_bounds x hx; omega
      refine ⟨by omega, ?_⟩
      rw [e, numsT_2 c h1 hp, List.take_of_length_le (i := 65) (l := c.line) (by omega), List.take_of_length_le (i := x.p) (l := c.line) (by omega)]
  · have hline : c.line = [] := by rw [← hm]; exact made_line h1
    refine ⟨by rw [hline]; simp, ?_⟩
    rw [numsT_0 c h1]
    by_cases h0 : x.p = 0
    · rw [numsR_0 c h1 h0, hline, h0]; rfl
    · rw [numsR_p c h1 h0]
theorem keyT {x : Shp} (hx : x ∈ tbl) {c : Cm} (hl64 : c.line.length ≤ 64) (h : parseC (ln x.word (numsT x c)) = (c, 0)) : numsR x c = numsT x c := by
  obtain ⟨hf, hm⟩ := parse_ln hx h
  have hk := (tbl_kinds x hx).1
  by_cases h1 : x.kind = 1
  · have hn2 : x.n ≤ 2 := by rcases hk with h | h | h; exact h.2.1; exact h.2.1; exact absurd h1 h.1
    rw [numsR_1 c h1, List.take_of_length_le (i := 65) (l := c.line) (by omega)]
    by_cases h3 : x.p < 3
    · have e := numsT_2 c h1 h3
      have hlen : (numsT x c).length = x.n + 2 * min x.p c.line.length := by
        rw [e, List.length_append, flat_length, List.length_take, List.length_take]
        simp only [List.length_cons, List.length_nil]
        omega
      have hc : c.line.length = min x.p c.line.length := by
        have h4 := made_line1 (ns := numsT x c) h1
        rw [hm] at h4
        have h5 := congrArg List.length h4
        rw [prs_length, List.length_drop, hlen] at h5
        omega
      rw [e, List.take_of_length_le (i := x.p) (l := c.line) (by omega)]
    · rw [numsT_3 c h1 h3]
  · have hline : c.line = [] := by rw [← hm]; exact made_line h1
    rw [numsT_0 c h1]
    by_cases h0 : x.p = 0
    · rw [numsR_0 c h1 h0, hline, h0]; rfl
    · rw [numsR_p c h1 h0]
/-- The reference's line, if there is one. -/
def refText (c : Cm) : Option (List UInt8) := if parseC (lineC c) = (c, 0) then some (lineC c) else none
theorem parseC_nil (c : Cm) : parseC [] ≠ (c, 0) := by
  rw [parseC_empty (by decide) (by simp [spl])]
  intro h
  injection h with _ h
  exact absurd h (by decide)
theorem goodT_iff (c : Cm) (x : Shp) : goodT c x = true ↔ x.kind = c.kind ∧ x.op = c.op ∧ x.fresh = c.fresh ∧ c.line.length ≤ 64 ∧ parseC (ln x.word (numsT x c)) = (c, 0) := by unfold goodT; exact decide_eq_true_iff
theorem matchT_iff (c : Cm) (x : Shp) : matchT c x = true ↔ x.kind = c.kind ∧ x.op = c.op ∧ x.fresh = c.fresh := by unfold matchT; exact decide_eq_true_iff
theorem text_eq (c : Cm) : refText c = textC c := by
  unfold refText lineC
  cases hf : tblR.find? (matchT c) with
  | none =>
    dsimp only
    rw [if_neg (parseC_nil c)]
    unfold textC
    rw [List.find?_eq_none.2 (fun x hx h => ?_)]
    · rfl
    · have hg := (goodT_iff c x).1 h
      exact List.find?_eq_none.1 hf x (tblR_of_tbl hx) ((matchT_iff c x).2 ⟨hg.1, hg.2.1, hg.2.2.1⟩)
  | some x =>
    dsimp only
    have hx := tblR_mem x (List.mem_of_find?_eq_some hf)
    have hm := (matchT_iff c x).1 (List.find?_some hf)
    have huniq : ∀ y ∈ tbl, goodT c y = true → y = x := fun y hy h => by
      have hg := (goodT_iff c y).1 h
      exact tbl_word_inj hy hx (tbl_triple y hy x hx ⟨by rw [hg.1, hm.1], by rw [hg.2.1, hm.2.1], by rw [hg.2.2.1, hm.2.2]⟩)
    by_cases hp : parseC (ln x.word (numsR x c)) = (c, 0)
    · obtain ⟨h64, he⟩ := keyR hx hp
      have hg : goodT c x = true := (goodT_iff c x).2 ⟨hm.1, hm.2.1, hm.2.2, h64, by rw [← he]; exact hp⟩
      rw [if_pos hp]
      unfold textC
      cases ht : tbl.find? (goodT c) with
      | none => exact absurd hg (List.find?_eq_none.1 ht x hx)
      | some y =>
        rw [huniq y (List.mem_of_find?_eq_some ht) (List.find?_some ht)]
        show some _ = some _
        rw [he]
    · rw [if_neg hp]
      unfold textC
      rw [List.find?_eq_none.2 (fun y hy h => ?_)]
      · rfl
      · have e := huniq y hy h
        subst e
        have hg := (goodT_iff c y).1 h
        exact hp (by rw [keyT hx hg.2.2.2.1 hg.2.2.2.2]; exact hg.2.2.2.2)
end Go.Proofs.YtidohbhcjnmmeaaDoor
