/-
  NamesNumbers: walked.
-/
import Derived.Test.YtieiopeblleheaaDoorProg
import Derived.Test.YtieiopeblleheaaDoorBase
import Derived.WalkKit
namespace Go.Proofs.YtieiopeblleheaaDoor
set_option linter.unusedSimpArgs false
set_option linter.unusedVariables false
open Go.RowKit

def nums : List Int := [0, 1, 2, 3, 4, 5, 7, 20, 21, 22, 23, 24, 25, 26, 27, 28, 29, 30, 31, 50, 60, 65, 1048576, 64, 200, 300, 1000000, 4000, 64, 480, 0, 1, 2, 3, 4, 1, 2, 3, 4, 5, 6, 7, 8, 1, 2, 3, 4, 5, 6, 7, 8, 9, 10, 11, 12, 13, -1, 0, 1]
def pairCells (l : List Int) : List Value := l.flatMap fun n => [.int .i64 n, .int .i64 n]
theorem pairCells_get (l : List Int) (k : Nat) (h : k < l.length) : (pairCells l)[k * 2]? = some (.int .i64 l[k]) ∧ (pairCells l)[k * 2 + 1]? = some (.int .i64 l[k]) := by
  induction l generalizing k with
  | nil => simp at h
  | cons x l ih =>
    cases k with
    | zero => simp [pairCells]
    | succ k =>
      have hk : k < l.length := by simpa using h
      have := ih k hk
      simp only [pairCells, List.flatMap_cons, List.cons_append, List.nil_append] at this ⊢
      rw [show (k + 1) * 2 = k * 2 + 1 + 1 from by omega]
      simpa using this

set_option maxHeartbeats 2000000 in
set_option maxRecDepth 100000 in
theorem all_any (w : World) : Calls Tryd.prog 4 #[] w fun e w' => e = .returned (.slice (some ⟨w.heap.size, 0, none⟩) 59 59) ∧ Blk w' w.heap.size 25 (pairCells nums).toArray ∧ Fr Nob w w' := by
  go_enter Tryd.func4, Tryd.ntmps4
  go_wp2
  go_ret
  exact ⟨rfl, Blk.new w _ _, (Fr.refl _ w).alloc _⟩

set_option maxRecDepth 100000 in
theorem err65_any (w : World) : Calls Tryd.prog 5 #[.int .i64 65] w fun e w' => e = .returned (.string ⟨#[101, 114, 114, 111, 114, 32, 54, 53]⟩) ∧ w = w' := by
  go_enter Tryd.func5, Tryd.ntmps5
  go_wp2
  go_ret
  exact ⟨rfl, rfl⟩
set_option maxRecDepth 100000 in
theorem err0_any (w : World) : Calls Tryd.prog 5 #[.int .i64 0] w fun e w' => e = .returned (.string ⟨#[101, 114, 114, 111, 114, 32, 48]⟩) ∧ w = w' := by
  go_enter Tryd.func5, Tryd.ntmps5
  go_wp2
  go_ret
  exact ⟨rfl, rfl⟩

set_option maxHeartbeats 2000000 in
set_option maxRecDepth 100000 in
theorem Names_any (w : World) : Calls Tryd.prog 3 #[] w fun e w' => e = .returned (.bool true) ∧ Fr Nob w w' := by
  go_enter Tryd.func3, Tryd.ntmps3
  go_wp2_with fail
  refine (all_any _).mono ?_
  rintro e w1 ⟨rfl, hb, hf⟩
  have HB := Lib.hid hb
  have HF := Lib.hid hf
  clear hb hf
  have hl : nums.length = 59 := rfl
  obtain ⟨g, hg⟩ : ∃ g, w.heap.size = g := ⟨_, rfl⟩
  rw [hg] at HB ⊢
  clear hg
  have HG := Lib.hid (pairCells_get nums)
  generalize nums = l at *
  go_wp2
  go_loopw [2] (fun i wr => ∃ k : Nat, k ≤ 59 ∧ i = .int .i64 k ∧ Hid (Fr Nob w wr) ∧ Hid (Blk wr g 25 (pairCells l).toArray)) (fun i _ => 59 - (intOf i).toNat)
  case atStart => exact ⟨0, by omega, rfl, HF, HB⟩
  case round =>
    clear HF HB
    obtain ⟨k, hk, rfl, hF, hB⟩ := hrel
    by_cases hlt : k < 59
    · have c0 : wr.cell? ⟨g, k * 2, none⟩ = some (.int .i64 (l[k]'(by omega))) := by
        rw [hB.out.cell, List.getElem?_toArray]; exact (HG.out k (by omega)).1
      have c1 : wr.cell? ⟨g, k * 2 + 1, none⟩ = some (.int .i64 (l[k]'(by omega))) := by
        rw [hB.out.cell, List.getElem?_toArray]; exact (HG.out k (by omega)).2
      generalize l[k]'(by omega) = x at *
      go_wp2
      go_region
      go_wp2
      go_roundw
      case rel => exact ⟨k + 1, by omega, by go_num, hF.out.drew, hB.out.drew⟩
      case measure => simp [intOf]; omega
    · obtain rfl : k = 59 := by omega
      go_wp2_with fail
      refine (err65_any _).mono ?_
      rintro e w2 ⟨rfl, rfl⟩
      go_wp2_with fail
      refine (err0_any _).mono ?_
      rintro e w2 ⟨rfl, rfl⟩
      go_wp2
      go_ret
      exact ⟨rfl, hF.out⟩
end Go.Proofs.YtieiopeblleheaaDoor
