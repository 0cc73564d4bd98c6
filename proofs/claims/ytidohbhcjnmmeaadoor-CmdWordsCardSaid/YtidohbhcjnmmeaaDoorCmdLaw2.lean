/-
  Commands, plain: small numbers are read as they are written.
-/
import Derived.Test.YtidohbhcjnmmeaaDoorCmdLaw
namespace Go.Proofs.YtidohbhcjnmmeaaDoor
set_option linter.unusedSimpArgs false
set_option linter.unusedVariables false

theorem dec_len : ∀ (k u : Nat), u < 10 ^ (k + 1) → (Lib.decDigits u).length ≤ k + 1 := by
  intro k
  induction k with
  | zero => intro u h; rw [Lib.decDigits.eq_1, dif_pos (by simpa using h)]; simp
  | succ k ih =>
    intro u h
    rw [Lib.decDigits.eq_1]
    split
    · simp
    · have := ih (u / 10) (by rw [Nat.pow_succ] at h; omega)
      rw [List.length_append, List.length_cons, List.length_nil]
      omega
theorem dec_zero : Lib.decDigits 0 = [48] := by rw [Lib.decDigits.eq_1, dif_pos (by decide)]; rfl
theorem numC_small (n : Int) (h0 : -1000000000 < n) (h1 : n < 1000000000) : numC (Lib.itoa n) = some n := by
  rw [numC_eq]
  rcases itoa_cases n with ⟨u, e, hu⟩ | ⟨u, hu0, e, hu⟩
  · rw [hu]
    obtain ⟨c, r, hd, hc, hz⟩ := dec_head u
    have hm : magOf (Lib.decDigits u) = Lib.decDigits u := by
      rw [hd]; exact mag_pos c r (fun e => by rw [e] at hc; exact absurd hc (by decide))
    have hl := dec_len 8 u (by omega)
    unfold refNum
    rw [hm, if_neg, if_neg (Nat.lt_irrefl _), (dec_val2 u).1, e]
    rintro (h | h | h | h)
    · rw [hd] at h; cases h
    · omega
    · obtain ⟨h2, h3⟩ := h
      by_cases hu0 : u = 0
      · subst hu0; exact h3 dec_zero
      · have := hz hu0
        rw [hd] at h2
        injection h2 with h2
        exact this (by rw [h2]; rfl)
    · exact h (dec_val2 u).2
  · rw [hu]
    obtain ⟨c, r, hd, hc, hz⟩ := dec_head u
    have hl := dec_len 8 u (by omega)
    unfold refNum
    rw [mag_neg, if_neg, if_pos (by simp), (dec_val2 u).1, e]
    rintro (h | h | h | h)
    · rw [hd] at h; cases h
    · omega
    · obtain ⟨h2, h3⟩ := h
      have := hz hu0
      rw [hd] at h2
      injection h2 with h2
      exact this (by rw [h2]; rfl)
    · exact h (dec_val2 u).2
theorem numsC_small : ∀ (ns : List Int), (∀ n ∈ ns, -1000000000 < n ∧ n < 1000000000) → numsC (ns.map Lib.itoa) = some ns
  | [], _ => rfl
  | n :: ns, h => by
    simp only [List.map_cons, numsC]
    rw [numC_small n (h n (by simp)).1 (h n (by simp)).2, numsC_small ns (fun m hm => h m (by simp [hm]))]
/-- A line of a word of the table and small numbers. -/
theorem parse_small {x : Shp} (hx : x ∈ tbl) {ns : List Int} (h : ∀ n ∈ ns, -1000000000 < n ∧ n < 1000000000) (hl : (ln x.word ns).length ≤ 2000) :
    parseC (ln x.word ns) = if x.fits ns.length then (x.made ns, 0) else ({ kind := 0 }, 3) := by
  unfold parseC
  rw [if_neg (by omega), spl_ln ns _ (tbl_blank x hx), List.headD_cons, List.tail_cons, tbl_find x hx]
  dsimp only
  rw [numsC_small ns h]
/-- The shape's own line. -/
theorem goodT_made {x : Shp} (hx : x ∈ tbl) {ns : List Int} (hf : x.fits ns.length = true) : (x.made ns).kind = x.kind ∧ (x.made ns).op = x.op ∧ (x.made ns).fresh = x.fresh ∧ (x.made ns).line.length ≤ 64 := by
  have ho : x.kind ≠ 1 → x.op = 0 ∧ x.fresh = false := (by decide : ∀ x ∈ tbl, x.kind ≠ 1 → x.op = 0 ∧ x.fresh = false) x hx
  have hb := tbl_bounds x hx
  by_cases h1 : x.kind = 1
  · unfold Shp.made
    rw [if_pos h1]
    refine ⟨h1.symm, rfl, rfl, ?_⟩
    dsimp only
    rw [prs_length, List.length_drop]
    unfold Shp.fits at hf
    split at hf
    · have := of_decide_eq_true hf; omega
    · have := of_decide_eq_true hf; omega
  · unfold Shp.made
    rw [if_neg h1]
    exact ⟨rfl, (ho h1).1.symm, (ho h1).2.symm, Nat.zero_le _⟩
theorem flat_prs : ∀ (l : List Int), l.length % 2 = 0 → flat (prs l) = l
  | [], _ => rfl
  | [_], h => by simp at h
  | x :: y :: r, h => by
    have : flat (prs (x :: y :: r)) = x :: y :: flat (prs r) := by simp [prs, flat]
    rw [this, flat_prs r (by simp at h; omega)]
theorem numsT_made {x : Shp} (hx : x ∈ tbl) {ns : List Int} (hf : x.fits ns.length = true) : numsT x (x.made ns) = ns := by
  have hk := (tbl_kinds x hx).1
  have hnp := tbl_np x hx
  have hp : ns.length = x.n + 2 * x.p ∧ x.p ≠ 3 ∨ (x.p = 3 ∧ (ns.length - x.n) % 2 = 0 ∧ x.n + 2 ≤ ns.length) := by
    unfold Shp.fits at hf
    split at hf
    · rename_i h3; have := of_decide_eq_true hf; exact .inr ⟨h3, this.2.1, this.1⟩
    · rename_i h3; exact .inl ⟨of_decide_eq_true hf, h3⟩
  have hle : x.n ≤ ns.length := by omega
  have hev : (ns.drop x.n).length % 2 = 0 := by rw [List.length_drop]; omega
  by_cases h1 : x.kind = 1
  · have hn2 : x.n ≤ 2 := by rcases hk with h | h | h; exact h.2.1; exact h.2.1; exact absurd h1 h.1
    have hA : [(x.made ns).a, (x.made ns).b].take x.n = ns.take x.n := by
      unfold Shp.made
      rw [if_pos h1]
      dsimp only
      have hx3 : x.n = 0 ∨ x.n = 1 ∨ x.n = 2 := by omega
      rcases hx3 with h | h | h
      · rw [h]; simp
      · rw [h] at hle ⊢
        obtain ⟨a, t, rfl⟩ : ∃ a t, ns = a :: t := by cases ns with | nil => simp at hle | cons a t => exact ⟨a, t, rfl⟩
        simp
      · rw [h] at hle ⊢
        obtain ⟨a, b, t, rfl⟩ : ∃ a b t, ns = a :: b :: t := by
          cases ns with
          | nil => simp at hle
          | cons a t => cases t with
            | nil => simp at hle
            | cons b t => exact ⟨a, b, t, rfl⟩
        simp
    have hL := made_line1 (ns := ns) h1
    have hlp : (prs (ns.drop x.n)).length = (ns.length - x.n) / 2 := by rw [prs_length, List.length_drop]
    by_cases h3 : x.p < 3
    · rw [numsT_2 _ h1 h3, hA, hL, List.take_of_length_le (l := prs (ns.drop x.n)) (by rw [hlp]; omega), flat_prs _ hev, List.take_append_drop]
    · rw [numsT_3 _ h1 h3, hA, hL, flat_prs _ hev, List.take_append_drop]
  · rw [numsT_0 _ h1]
    have hp2 : x.p ≤ 2 := by rcases hk with h | h | h; exact absurd h.1 h1; exact absurd h.1 h1; exact h.2.2
    have hn1 : x.n ≤ 1 := by rcases hk with h | h | h; exact absurd h.1 h1; exact absurd h.1 h1; exact h.2.1
    have hl2 : ns.length = x.n + 2 * x.p := by omega
    have hcase := hnp h1
    unfold Shp.made
    rw [if_neg h1]
    dsimp only
    rcases hcase with h0 | h0
    · rw [h0] at hl2 ⊢
      have hx3 : x.p = 0 ∨ x.p = 1 ∨ x.p = 2 := by omega
      rcases hx3 with h | h | h
      · rw [h] at hl2 ⊢; simp at hl2; subst hl2; rfl
      · rw [h] at hl2 ⊢
        match ns, hl2 with
        | [a, b], _ => rfl
      · rw [h] at hl2 ⊢
        match ns, hl2 with
        | [a, b, c, d], _ => rfl
    · rw [h0] at hl2 ⊢
      have hx3 : x.n = 0 ∨ x.n = 1 := by omega
      rcases hx3 with h | h
      · rw [h] at hl2 ⊢; simp at hl2; subst hl2; rfl
      · rw [h] at hl2 ⊢
        match ns, hl2 with
        | [a], _ => rfl
/-- The line of what small numbers make is the line itself. -/
theorem textC_made {x : Shp} (hx : x ∈ tbl) {ns : List Int} (h : ∀ n ∈ ns, -1000000000 < n ∧ n < 1000000000) (hl : (ln x.word ns).length ≤ 2000) (hf : x.fits ns.length = true) : textC (x.made ns) = some (ln x.word ns) := by
  obtain ⟨g1, g2, g3, g4⟩ := goodT_made hx hf
  have hn := numsT_made hx hf
  have hp := parse_small hx h hl
  rw [if_pos hf] at hp
  have hg : goodT (x.made ns) x = true := (goodT_iff _ x).2 ⟨g1.symm, g2.symm, g3.symm, g4, by rw [hn]; exact hp⟩
  unfold textC
  cases ht : tbl.find? (goodT (x.made ns)) with
  | none => exact absurd hg (List.find?_eq_none.1 ht x hx)
  | some y =>
    have hy := List.mem_of_find?_eq_some ht
    have hgy := (goodT_iff _ y).1 (List.find?_some ht)
    have e : y = x := tbl_word_inj hy hx (tbl_triple y hy x hx ⟨by rw [hgy.1, g1], by rw [hgy.2.1, g2], by rw [hgy.2.2.1, g3]⟩)
    subst e
    show some (ln y.word (numsT y (y.made ns))) = some _
    rw [hn]
/-- The line that wakes. -/
def nodeLine : List UInt8 := [110, 111, 100, 101, 32, 49, 32, 50]
theorem itoa_one : Lib.itoa 1 = [49] := by have := itoa_nat 1; rw [show ((1 : Nat) : Int) = 1 from rfl] at this; rw [this, Lib.decDigits.eq_1, dif_pos (by decide)]; rfl
theorem itoa_two : Lib.itoa 2 = [50] := by have := itoa_nat 2; rw [show ((2 : Nat) : Int) = 2 from rfl] at this; rw [this, Lib.decDigits.eq_1, dif_pos (by decide)]; rfl
theorem nodeLine_ln : nodeLine = ln (tbl[0]).word [1, 2] := by simp [ln, itoa_one, itoa_two]; rfl
theorem node_small : ∀ n ∈ ([1, 2] : List Int), -1000000000 < n ∧ n < 1000000000 := by decide
theorem node_parse : parseC nodeLine = ({ kind := 1, op := 1, line := [(1, 2)] }, 0) := by
  rw [nodeLine_ln, parse_small (List.getElem_mem (by decide)) node_small (by rw [← nodeLine_ln]; decide)]
  rfl
theorem node_text : textC { kind := 1, op := 1, line := [(1, 2)] } = some nodeLine := by
  have := textC_made (x := tbl[0]) (ns := [1, 2]) (List.getElem_mem (by decide)) node_small (by rw [← nodeLine_ln]; decide) (by decide)
  rw [← nodeLine_ln] at this
  exact this
end Go.Proofs.YtidohbhcjnmmeaaDoor
