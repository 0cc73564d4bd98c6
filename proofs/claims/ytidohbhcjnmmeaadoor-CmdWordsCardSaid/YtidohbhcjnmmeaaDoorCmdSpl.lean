/-
  A line's words: parted by single blanks (plain), and strings.Split at a blank.
-/
import Derived.Test.YtidohbhcjnmmeaaDoorCmd1
namespace Go.Proofs.YtidohbhcjnmmeaaDoor
set_option linter.unusedSimpArgs false
set_option linter.unusedVariables false
open Go.RowKit

theorem beq_tx' (a b : List UInt8) : ((tx a).toList == (tx b).toList) = decide (a = b) := beq_tx (tx a) (tx b)
/-- A line's words, parted by single blanks. -/
def spl : List UInt8 → List (List UInt8)
  | [] => [[]]
  | c :: r => if c = 32 then [] :: spl r else (c :: (spl r).headD []) :: (spl r).tail
theorem spl_ne (l : List UInt8) : spl l ≠ [] := by
  cases l with
  | nil => simp [spl]
  | cons c r => simp only [spl]; split <;> simp
theorem spl_cons (l : List UInt8) : ∃ a s, spl l = a :: s := by
  cases h : spl l with
  | nil => exact absurd h (spl_ne l)
  | cons a s => exact ⟨a, s, rfl⟩
theorem spl_word (w : List UInt8) (h : 32 ∉ w) (r : List UInt8) : spl (w ++ 32 :: r) = w :: spl r := by
  induction w with
  | nil => simp [spl]
  | cons c w ih =>
    have hc : c ≠ 32 := fun e => h (by simp [e])
    rw [List.cons_append, spl, if_neg hc, ih (fun e => h (by simp [e]))]
    rfl
theorem spl_last (w : List UInt8) (h : 32 ∉ w) : spl w = [w] := by
  induction w with
  | nil => simp [spl]
  | cons c w ih =>
    have hc : c ≠ 32 := fun e => h (by simp [e])
    rw [spl, if_neg hc, ih (fun e => h (by simp [e]))]
    rfl
theorem spl_len (l : List UInt8) : (spl l).length ≤ l.length + 1 := by
  induction l with
  | nil => simp [spl]
  | cons c r ih =>
    simp only [spl]
    split
    · simp only [List.length_cons]; omega
    · obtain ⟨a, s, e⟩ := spl_cons r
      rw [e] at ih ⊢
      simp only [List.length_cons, List.tail_cons] at ih ⊢; omega
theorem spl_each (l : List UInt8) : ∀ w ∈ spl l, w.length ≤ l.length ∧ 32 ∉ w := by
  induction l with
  | nil => simp [spl]
  | cons c r ih =>
    simp only [spl]
    split
    · rename_i hc
      intro w hw
      rcases List.mem_cons.1 hw with h | h
      · subst h; simp
      · have := ih w h; exact ⟨by simp; omega, this.2⟩
    · rename_i hc
      obtain ⟨a, s, e⟩ := spl_cons r
      rw [e] at ih ⊢
      intro w hw
      simp only [List.headD_cons, List.tail_cons, List.mem_cons] at hw
      rcases hw with h | h
      · subst h
        have := ih a (by simp)
        refine ⟨by simp; omega, ?_⟩
        simp only [List.mem_cons, not_or]
        exact ⟨fun e => hc e.symm, this.2⟩
      · have := ih w (by simp [h]); exact ⟨by simp; omega, this.2⟩
/-- Where the first blank is. -/
theorem blank_cases (l : List UInt8) : (32 ∉ l) ∨ ∃ w r, l = w ++ 32 :: r ∧ 32 ∉ w := by
  induction l with
  | nil => exact .inl (by simp)
  | cons c l ih =>
    by_cases hc : c = 32
    · exact .inr ⟨[], l, by simp [hc], by simp⟩
    · rcases ih with h | ⟨w, r, e, h⟩
      · exact .inl (by simp [h, Ne.symm hc])
      · exact .inr ⟨c :: w, r, by simp [e], by simp [h, Ne.symm hc]⟩
theorem occ_one (l : List UInt8) (j : Nat) : Lib.occAt l [32] j = true ↔ l[j]? = some 32 := by
  unfold Lib.occAt
  rw [← List.head?_drop]
  cases l.drop j with
  | nil => simp
  | cons a r =>
    simp only [List.head?_cons, Option.some.injEq]
    constructor
    · intro h
      rw [List.isPrefixOf] at h
      simp at h
      exact h.symm
    · intro h; subst h; simp [List.isPrefixOf]
theorem index_hit (w r : List UInt8) (h : 32 ∉ w) : Lib.index (w ++ 32 :: r) [32] = w.length := by
  refine Lib.index_first (by simp) ((occ_one _ _).2 (by simp)) (fun j hj => ?_)
  cases hb : Lib.occAt (w ++ 32 :: r) [32] j with
  | false => rfl
  | true =>
    have := (occ_one _ _).1 hb
    rw [List.getElem?_append_left hj] at this
    exact absurd (List.mem_of_getElem? this) h
theorem index_miss (l : List UInt8) (h : 32 ∉ l) : Lib.index l [32] = -1 := by
  refine Lib.index_none (fun j hj => ?_)
  cases hb : Lib.occAt l [32] j with
  | false => rfl
  | true => exact absurd (List.mem_of_getElem? ((occ_one _ _).1 hb)) h
theorem split_spl : ∀ (n : Nat) (l : List UInt8), l.length ≤ n → Lib.splitK [32] 0 (Lib.count l [32]) l = spl l ∧ Lib.count l [32] + 1 = (spl l).length := by
  intro n
  induction n with
  | zero =>
    intro l h
    obtain rfl : l = [] := List.eq_nil_of_length_eq_zero (by omega)
    exact ⟨by decide, by decide⟩
  | succ n ih =>
    intro l h
    rcases blank_cases l with hm | ⟨w, r, e, hw⟩
    · rw [Lib.count_miss (index_miss l hm), spl_last l hm]
      exact ⟨rfl, rfl⟩
    · subst e
      have hi := index_hit w r hw
      have hd : (w ++ 32 :: r).drop (w.length + 1) = r := by rw [List.drop_append]; simp
      rw [Lib.count_hit (by simp) hi, spl_word w hw r]
      simp only [List.length_cons, List.length_nil, Nat.zero_add, hd]
      obtain ⟨i1, i2⟩ := ih r (by simp at h; omega)
      rw [Nat.add_comm 1, Lib.splitK, hi, if_neg (by simp)]
      simp only [Int.toNat_natCast, Nat.add_zero, List.length_cons, List.length_nil, Nat.zero_add, hd, i1, ← i2]
      refine ⟨?_, trivial⟩
      rw [List.take_append]; simp
theorem split_words (s : ByteArray) : (Lib.splitB ⟨#[32]⟩ 0 (Lib.countB s ⟨#[32]⟩) s).map bs = spl (bs s) := by
  have := Lib.splitB_data ⟨#[32]⟩ 0 (Lib.countB s ⟨#[32]⟩) s
  have h2 := (split_spl _ (bs s) (Nat.le_refl _)).1
  unfold bs at h2 ⊢
  rw [← h2]
  exact this
theorem split_count (s : ByteArray) : Lib.countB s ⟨#[32]⟩ + 1 = (spl (bs s)).length := (split_spl _ (bs s) (Nat.le_refl _)).2

theorem Split_any (s : ByteArray) (w : World) (he : Env w) (hs : s.size ≤ 100000) :
    Calls Tryd.prog 15 #[.string s, .string ⟨#[32]⟩] w fun e w' => ∃ g, e = .returned (.slice (some ⟨g, 0, none⟩) (spl (bs s)).length (spl (bs s)).length) ∧ w.heap.size ≤ g ∧ g < w'.heap.size ∧ StrIn w' (some ⟨g, 0, none⟩) (spl (bs s)) ∧ Fr Nob w w' := by
  obtain ⟨m, hm⟩ := he.most
  refine (Tryd.strings_Split s ⟨#[32]⟩ m w (by omega) hm (by decide)).mono ?_
  rintro e w' ⟨rfl, rfl⟩
  rw [split_count]
  refine ⟨_, rfl, Nat.le_refl _, by simp, fun _ => ⟨_, _, rfl, fun j x hx => ?_⟩, (Fr.refl _ _).alloc _⟩
  rw [← split_words, List.getElem?_map] at hx
  rw [(Blk.new w _ _).cell (0 + j), List.getElem?_toArray, Nat.zero_add, List.getElem?_map]
  cases hj : (Lib.splitB ⟨#[32]⟩ 0 (Lib.countB s ⟨#[32]⟩) s)[j]? with
  | none => rw [hj] at hx; cases hx
  | some y =>
    rw [hj] at hx
    simp only [Option.map_some, Option.some.injEq] at hx ⊢
    rw [← hx, tx_bs]
end Go.Proofs.YtidohbhcjnmmeaaDoor
