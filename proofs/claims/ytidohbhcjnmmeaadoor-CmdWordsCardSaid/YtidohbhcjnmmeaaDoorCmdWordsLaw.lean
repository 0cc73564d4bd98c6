/-
  The lines that CmdWords asks for (plain).
-/
import Derived.Test.YtidohbhcjnmmeaaDoorCmdWords1
namespace Go.Proofs.YtidohbhcjnmmeaaDoor
set_option linter.unusedSimpArgs false
set_option linter.unusedVariables false
open Go.RowKit

theorem prs_mem : ∀ (l : List Int), ∀ z ∈ prs l, z.1 ∈ l ∧ z.2 ∈ l
  | [], z, h => by simp [prs] at h
  | [_], z, h => by simp [prs] at h
  | a :: b :: r, z, h => by
    simp only [prs, List.mem_cons] at h
    rcases h with h | h
    · subst h; simp
    · have := prs_mem r z h
      exact ⟨by simp [this.1], by simp [this.2]⟩
theorem getD_in {l : List Int} (h : ∀ n ∈ l, I64 n) (i : Nat) : I64 (l.getD i 0) := by
  rw [List.getD_eq_getElem?_getD]
  cases hx : l[i]? with
  | none => exact ⟨by simp, by simp⟩
  | some n => exact h n (List.mem_of_getElem? hx)
theorem getD_pair {l : List (Int × Int)} (h : ∀ z ∈ l, I64 z.1 ∧ I64 z.2) (i : Nat) : I64 (l.getD i (0, 0)).1 ∧ I64 (l.getD i (0, 0)).2 := by
  rw [List.getD_eq_getElem?_getD]
  cases hx : l[i]? with
  | none => exact ⟨⟨by simp, by simp⟩, ⟨by simp, by simp⟩⟩
  | some n => exact h n (List.mem_of_getElem? hx)
theorem zero_in : I64 0 := ⟨by decide, by decide⟩
theorem made_ok (x : Shp) {ns : List Int} (h : ∀ n ∈ ns, I64 n) : (x.made ns).Ok := by
  have hp : ∀ z ∈ prs (ns.drop x.n), I64 z.1 ∧ I64 z.2 := fun z hz => by
    have := prs_mem _ z hz
    exact ⟨h _ (List.mem_of_mem_drop this.1), h _ (List.mem_of_mem_drop this.2)⟩
  have hif : ∀ (c : Prop) [Decidable c] (i : Nat), I64 (if c then ns.getD i 0 else 0) := fun c _ i => by
    split
    · exact getD_in h i
    · exact zero_in
  unfold Shp.made
  split
  · exact ⟨hif _ _, hif _ _, zero_in, ⟨zero_in, zero_in⟩, ⟨zero_in, zero_in⟩, hp⟩
  · exact ⟨zero_in, zero_in, hif _ _, getD_pair hp 0, getD_pair hp 1, fun z hz => by cases hz⟩

/-- What CmdWords says of each word: how many numbers, and whether more pairs may follow. -/
def Shp.num (x : Shp) : Nat := if x.p = 3 then x.n + 4 else x.n + 2 * x.p
def Shp.more (x : Shp) : Bool := decide (x.p = 3)
theorem num_in : ∀ x ∈ tbl, x.num ≤ 6 ∧ x.word.length ≤ 20 ∧ (x.p = 3 → 4 ≤ x.num) := by decide
theorem fits_num (x : Shp) : x.fits x.num = true := by
  unfold Shp.fits Shp.num
  split
  · exact decide_eq_true ⟨by omega, by omega, by omega⟩
  · exact decide_eq_true rfl
theorem fits_no {x : Shp} {m : Nat} (h : m ≠ x.num) (hp : x.more = false) : x.fits m = false := by
  have : ¬ x.p = 3 := of_decide_eq_false hp
  unfold Shp.fits
  unfold Shp.num at h
  rw [if_neg this] at h ⊢
  exact decide_eq_false h
theorem fits_more {x : Shp} {m : Nat} (hm : m ≤ 15) (hp : x.more = true) : x.fits m = decide (x.num ≤ m + 2 ∧ ((m : Int) - (x.num : Int)).tmod 2 = 0) := by
  have h3 : x.p = 3 := of_decide_eq_true hp
  unfold Shp.fits Shp.num
  rw [if_pos h3, if_pos h3]
  apply decide_eq_decide.2
  have key : ((m : Int) - ((x.n + 4 : Nat) : Int)).tmod 2 = 0 ↔ (2 : Int) ∣ ((m : Int) - ((x.n + 4 : Nat) : Int)) := (Int.dvd_iff_tmod_eq_zero ..).symm
  rw [key]
  constructor
  · rintro ⟨h1, h2, h3⟩; exact ⟨by omega, by omega⟩
  · rintro ⟨h1, h2⟩; exact ⟨by omega, by omega, by omega⟩

theorem word_parse {x : Shp} (hx : x ∈ tbl) (z : Int) {m : Nat} (hm : m ≤ 15) : parseC (ln x.word (dgs z m)) = if x.fits m then (x.made (dgs z m), 0) else ({ kind := 0 }, 3) := by
  have h1 := dgs_size x.word z m
  have h2 := (num_in x hx).2.1
  have := parse_small hx (dgs_small z m) (by omega)
  rw [dgs_length] at this
  exact this
theorem word_text {x : Shp} (hx : x ∈ tbl) (z : Int) : textC (x.made (dgs z x.num)) = some (ln x.word (dgs z x.num)) := by
  have h1 := dgs_size x.word z x.num
  have h2 := num_in x hx
  exact textC_made hx (dgs_small z _) (by omega) (by rw [dgs_length]; exact fits_num x)
theorem word_ok (x : Shp) (z : Int) (m : Nat) : (x.made (dgs z m)).Ok := made_ok x fun n hn => by have := dgs_small z m n hn; exact ⟨by omega, by omega⟩
theorem word_line {x : Shp} (hx : x ∈ tbl) (z : Int) : (x.made (dgs z x.num)).line.length ≤ 1000000 := by
  have := (goodT_made hx (ns := dgs z x.num) (by rw [dgs_length]; exact fits_num x)).2.2.2
  omega

/-- The rows of CmdWords in memory. -/
def wCells (l : List Shp) : List Value := l.flatMap fun x => [.string (tx x.word), .int .i64 x.num, .bool x.more]
theorem wCells_get : ∀ (l : List Shp) (j i : Nat) (x : Shp), l[j]? = some x → i < 3 → (wCells l)[j * 3 + i]? = [Value.string (tx x.word), .int .i64 x.num, .bool x.more][i]?
  | [], j, i, x, h, _ => by simp at h
  | y :: r, 0, i, x, h, hi => by
    simp only [List.getElem?_cons_zero, Option.some.injEq] at h
    subst h
    unfold wCells
    rw [List.flatMap_cons, Nat.zero_mul, Nat.zero_add, List.getElem?_append_left (by simpa using hi)]
  | y :: r, j + 1, i, x, h, hi => by
    have := wCells_get r j i x (by simpa using h) hi
    unfold wCells at this ⊢
    rw [List.flatMap_cons, List.getElem?_append_right (by simp; omega), ← this]
    congr 1
    simp; omega
end Go.Proofs.YtidohbhcjnmmeaaDoor
