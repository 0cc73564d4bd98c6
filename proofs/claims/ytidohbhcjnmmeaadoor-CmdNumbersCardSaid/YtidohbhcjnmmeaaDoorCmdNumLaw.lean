/-
  The lines of CmdNumbers: what the code makes of each (plain).
-/
import Derived.Test.YtidohbhcjnmmeaaDoorCmdLaw2
namespace Go.Proofs.YtidohbhcjnmmeaaDoor
set_option linter.unusedSimpArgs false
set_option linter.unusedVariables false
open Go.RowKit

def atW : List UInt8 := [97, 116]
theorem at_mem : (⟨[97, 116], 7, 0, false, 0, 1⟩ : Shp) ∈ tbl := List.mem_of_getElem? (i := 17) rfl
theorem at_find : tbl.find? (fun x => decide (x.word = atW)) = some ⟨[97, 116], 7, 0, false, 0, 1⟩ := tbl_find _ at_mem
/-- A line of other words than two numbers. -/
theorem at_bad {l : List UInt8} {ws : List (List UInt8)} (h : spl l = atW :: ws) (hl : l.length ≤ 2000) (hb : numsC ws = none ∨ ws.length ≠ 2) : (parseC l).2 = 3 := by
  unfold parseC
  rw [if_neg (by omega), h, List.headD_cons, List.tail_cons, at_find]
  dsimp only
  cases hn : numsC ws with
  | none => rfl
  | some ns =>
    dsimp only
    have hlen := numsC_length hn
    rcases hb with hb | hb
    · rw [hn] at hb; cases hb
    · rw [if_neg]
      unfold Shp.fits
      simp [hlen, hb]
theorem numsC_first {a : List UInt8} {r : List (List UInt8)} (h : numC a = none) : numsC (a :: r) = none := by simp [numsC, h]
theorem itoa_ne (n : Int) : Lib.itoa n ≠ [] := by
  rcases itoa_cases n with ⟨u, _, e⟩ | ⟨u, _, _, e⟩
  · rw [e]; obtain ⟨c, r, e', _⟩ := dec_head u; rw [e']; simp
  · rw [e]; simp
theorem no_nought (n : Int) : numC (48 :: Lib.itoa n) = none := by
  rw [numC_eq]
  unfold refNum
  rw [if_pos]
  right; right; left
  exact ⟨by simp [magOf], fun e => itoa_ne n (by injection e)⟩
theorem no_plus (l : List UInt8) : numC (43 :: l) = none := by
  rw [numC_eq]
  unfold refNum
  rw [if_pos]
  right; right; right
  intro h
  exact absurd (h 43 (by simp [magOf])) (by decide)
theorem no_minus (n : Int) : numC (Lib.itoa n ++ [45]) = none := by
  rw [numC_eq]
  unfold refNum
  rw [if_pos]
  right; right; right
  intro h
  refine absurd (h 45 ?_) (by decide)
  obtain ⟨a, r, e⟩ : ∃ a r, Lib.itoa n = a :: r := by
    cases hh : Lib.itoa n with
    | nil => exact absurd hh (itoa_ne n)
    | cons a r => exact ⟨a, r, rfl⟩
  rw [e]
  unfold magOf
  split <;> simp
theorem no_ten : numC [49, 50, 51, 52, 53, 54, 55, 56, 57, 48] = none := by unfold numC; rw [if_pos (by decide)]
theorem no_zero : numC [45, 48] = none := by
  rw [numC_eq]
  unfold refNum
  rw [if_pos]
  right; right; left
  exact ⟨rfl, by decide⟩

/-- The nine lines. -/
def badLines (A B : List UInt8) : List (List UInt8) :=
  [[97, 116, 32, 48] ++ A ++ [32] ++ B, [97, 116, 32] ++ A ++ [45, 32] ++ B, [97, 116, 32, 32] ++ A ++ [32] ++ B, [97, 116, 32] ++ A ++ [32] ++ B ++ [32],
   [97, 116, 32] ++ A, [97, 116, 32] ++ A ++ [32] ++ B ++ [32, 49], [97, 116, 32, 43] ++ A ++ [32] ++ B, [97, 116, 32, 49, 50, 51, 52, 53, 54, 55, 56, 57, 48, 32] ++ B, [97, 116, 32, 45, 48, 32] ++ B]
theorem bad_all (n m : Int) (hn : I64 n) (hm : I64 m) : ∀ l ∈ badLines (Lib.itoa n) (Lib.itoa m), (parseC l).2 = 3 ∧ l.length ≤ 200 := by
  have bn := itoa_blank n
  have bm := itoa_blank m
  have ln1 := Lib.itoa_length_le n hn.1 hn.2
  have lm1 := Lib.itoa_length_le m hm.1 hm.2
  have hna := no_nought n
  have hmi := no_minus n
  generalize Lib.itoa n = A at *
  generalize Lib.itoa m = B at *
  have at32 : ∀ r, spl (97 :: 116 :: 32 :: r) = atW :: spl r := fun r => spl_word atW (by decide) r
  intro l hl
  unfold badLines at hl
  simp only [List.mem_cons, List.not_mem_nil, or_false] at hl
  have len : l.length ≤ 200 := by
    rcases hl with h | h | h | h | h | h | h | h | h <;> (subst h; simp; omega)
  refine ⟨?_, len⟩
  have len2 : l.length ≤ 2000 := by omega
  rcases hl with h | h | h | h | h | h | h | h | h <;> subst h
  · refine at_bad (ws := [48 :: A, B]) ?_ len2 (.inl (numsC_first hna))
    rw [show [97, 116, 32, 48] ++ A ++ [32] ++ B = 97 :: 116 :: 32 :: ((48 :: A) ++ 32 :: B) by simp, at32, spl_word (48 :: A) (by simp [bn]), spl_last B bm]
  · refine at_bad (ws := [A ++ [45], B]) ?_ len2 (.inl (numsC_first hmi))
    rw [show [97, 116, 32] ++ A ++ [45, 32] ++ B = 97 :: 116 :: 32 :: ((A ++ [45]) ++ 32 :: B) by simp, at32, spl_word (A ++ [45]) (by simp [bn]), spl_last B bm]
  · refine at_bad (ws := [[], A, B]) ?_ len2 (.inr (by simp))
    rw [show [97, 116, 32, 32] ++ A ++ [32] ++ B = 97 :: 116 :: 32 :: ([] ++ 32 :: (A ++ 32 :: B)) by simp, at32, spl_word [] (by simp), spl_word A bn, spl_last B bm]
  · refine at_bad (ws := [A, B, []]) ?_ len2 (.inr (by simp))
    rw [show [97, 116, 32] ++ A ++ [32] ++ B ++ [32] = 97 :: 116 :: 32 :: (A ++ 32 :: (B ++ 32 :: [])) by simp, at32, spl_word A bn, spl_word B bm]; rfl
  · refine at_bad (ws := [A]) ?_ len2 (.inr (by simp))
    rw [show [97, 116, 32] ++ A = 97 :: 116 :: 32 :: A by simp, at32, spl_last A bn]
  · refine at_bad (ws := [A, B, [49]]) ?_ len2 (.inr (by simp))
    rw [show [97, 116, 32] ++ A ++ [32] ++ B ++ [32, 49] = 97 :: 116 :: 32 :: (A ++ 32 :: (B ++ 32 :: [49])) by simp, at32, spl_word A bn, spl_word B bm]; rfl
  · refine at_bad (ws := [43 :: A, B]) ?_ len2 (.inl (numsC_first (no_plus A)))
    rw [show [97, 116, 32, 43] ++ A ++ [32] ++ B = 97 :: 116 :: 32 :: ((43 :: A) ++ 32 :: B) by simp, at32, spl_word (43 :: A) (by simp [bn]), spl_last B bm]
  · refine at_bad (ws := [[49, 50, 51, 52, 53, 54, 55, 56, 57, 48], B]) ?_ len2 (.inl (numsC_first no_ten))
    rw [show [97, 116, 32, 49, 50, 51, 52, 53, 54, 55, 56, 57, 48, 32] ++ B = 97 :: 116 :: 32 :: ([49, 50, 51, 52, 53, 54, 55, 56, 57, 48] ++ 32 :: B) by simp, at32, spl_word _ (by decide), spl_last B bm]
  · refine at_bad (ws := [[45, 48], B]) ?_ len2 (.inl (numsC_first no_zero))
    rw [show [97, 116, 32, 45, 48, 32] ++ B = 97 :: 116 :: 32 :: ([45, 48] ++ 32 :: B) by simp, at32, spl_word _ (by decide), spl_last B bm]
def atLine (A B : List UInt8) : List UInt8 := [97, 116, 32] ++ A ++ [32] ++ B
theorem at_good (n m : Int) (hn : -1000000000 < n ∧ n < 1000000000) (hm : -1000000000 < m ∧ m < 1000000000) : parseC (atLine (Lib.itoa n) (Lib.itoa m)) = ({ kind := 7, p := (n, m) }, 0) := by
  have e : atLine (Lib.itoa n) (Lib.itoa m) = ln [97, 116] [n, m] := by simp [atLine, ln]
  rw [e]
  have hl := ln_length [97, 116] [n, m] (fun x hx => by
    simp only [List.mem_cons, List.not_mem_nil, or_false] at hx
    rcases hx with h | h <;> subst h <;> exact ⟨by omega, by omega⟩)
  exact parse_small at_mem (ns := [n, m]) (fun x hx => by
    simp only [List.mem_cons, List.not_mem_nil, or_false] at hx
    rcases hx with h | h <;> subst h
    · exact hn
    · exact hm) (by show (ln [97, 116] [n, m]).length ≤ 2000; simp at hl; omega)
end Go.Proofs.YtidohbhcjnmmeaaDoor
