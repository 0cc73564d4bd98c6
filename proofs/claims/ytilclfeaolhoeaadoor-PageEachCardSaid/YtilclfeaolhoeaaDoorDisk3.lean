/-
  What New makes.
-/
import Derived.Test.YtilclfeaolhoeaaDoorDisk1
import Derived.Deep.OwnRows
import Derived.RegionTactic
import Derived.BigRegion
namespace Go.Proofs.YtilclfeaolhoeaaDoor
set_option linter.unusedSimpArgs false
set_option linter.unusedVariables false
open Go.RowKit

theorem info_bytes : (Tryd.prog.info? 35).map (fun i => (i.zero, i.size, i.bytes)) = some (some (.slice none 0 0), 1, 24) := by kernel_rfl

def DS.new (n : Nat) : DS := { now := List.replicate n nought, last := List.replicate n nought, waits := [], writes := 0, fuse := -1, dead := false }

theorem New_bad (n : Int) (w : World) (h : n < 8 ∨ 65536 < n) :
    Calls Tryd.prog 5 #[.int .i64 n] w fun e w' => e = .returned (.tuple #[.pointer none, .int .i64 1]) ∧ w = w' := by
  rcases (by omega : n < 8 ∨ (8 ≤ n ∧ 65536 < n)) with h | ⟨h1, h⟩
  all_goals
    go_enter Tryd.func5, Tryd.ntmps5
    go_wp2
    go_ret2
    exact ⟨rfl, rfl⟩

theorem secs_replicate (R : Nat → Prop) (w : World) (n : Nat) : Secs R w (List.replicate n (.slice none 0 0)) (List.replicate n nought) := by
  refine ⟨by simp, fun i v s hv hs => ?_⟩
  rw [List.getElem?_replicate] at hv hs
  split at hv
  · injection hv with hv
    rw [if_pos (by assumption)] at hs
    injection hs with hs
    subst hv hs
    exact ⟨by simp [nought], .inl ⟨rfl, rfl⟩⟩
  · cases hv


theorem new_shape (n : Nat) (w : World) (h1 : 8 ≤ n) (h2 : n ≤ 65536) (nb lb : Nat) (h : nb = w.heap.size ∧ lb = w.heap.size + 1 ∨ nb = w.heap.size + 1 ∧ lb = w.heap.size) (w' : World)
    (hw : w' = (((w.alloc (.cells (madeCells #[.slice none 0 0] n) 35)).alloc (.cells (madeCells #[.slice none 0 0] n) 35)).alloc (.cells #[.slice (some ⟨nb, 0, none⟩) n n, .slice (some ⟨lb, 0, none⟩) n n, .slice none 0 0, .int .i64 0, .int .i64 (-1), .bool false] 50)).drew) :
    w.heap.size ≤ w.heap.size + 1 + 1 ∧ DiskOk (fun b => w.heap.size ≤ b ∧ b < w'.heap.size) w' (w.heap.size + 1 + 1) (DS.new n) ∧ Fr Nob w w' := by
  have hz : w'.heap.size = w.heap.size + 3 := by subst hw; simp
  have b0 : Blk w' w.heap.size 35 (List.replicate n (.slice none 0 0)).toArray := by
    subst hw; rw [← madeCells_toArray]; exact (((Blk.new w _ _).alloc _).alloc _).drew
  have b1 : Blk w' (w.heap.size + 1) 35 (List.replicate n (.slice none 0 0)).toArray := by
    subst hw; rw [← madeCells_toArray]
    have := Blk.new (w.alloc (.cells (madeCells #[.slice none 0 0] n) 35)) 35 (madeCells #[.slice none 0 0] n)
    rw [World.size_alloc] at this
    exact (this.alloc _).drew
  have b2 : Blk w' (w.heap.size + 1 + 1) 50 #[.slice (some ⟨nb, 0, none⟩) n n, .slice (some ⟨lb, 0, none⟩) n n, .slice none 0 0, .int .i64 0, .int .i64 (-1), .bool false] := by
    subst hw
    have := Blk.new ((w.alloc (.cells (madeCells #[.slice none 0 0] n) 35)).alloc (.cells (madeCells #[.slice none 0 0] n) 35)) 50 #[.slice (some ⟨nb, 0, none⟩) n n, .slice (some ⟨lb, 0, none⟩) n n, .slice none 0 0, .int .i64 0, .int .i64 (-1), .bool false]
    rw [World.size_alloc, World.size_alloc] at this
    exact this.drew
  refine ⟨by omega, ⟨nb, lb, List.replicate n (.slice none 0 0), List.replicate n (.slice none 0 0), .slice none 0 0, [], ?_⟩, ?_⟩
  · exact { blk := by simpa [DS.new] using b2
            bnow := by rcases h with ⟨rfl, rfl⟩ | ⟨rfl, rfl⟩ <;> assumption
            blast := by rcases h with ⟨rfl, rfl⟩ | ⟨rfl, rfl⟩ <;> assumption
            ne := by omega
            own := World.ownsRow_nil _ _ _ _
            rp := by omega
            rn := by omega
            rl := by omega
            rw := by simp [Value.ownBlock]
            lt := fun b hb => hb.2
            llen := by simp [DS.new]
            pos := by simp [DS.new]; omega
            small := by simpa [DS.new] using h2
            now := secs_replicate _ _ _
            last := secs_replicate _ _ _
            waits := ⟨rfl, fun i x y hx => by simp at hx⟩
            fuse0 := by simp [DS.new]
            fuse1 := by simp [DS.new] }
  · subst hw
    exact ((((Fr.refl _ w).alloc _).alloc _).alloc _).drew

set_option maxHeartbeats 400000 in
theorem New_good (n : Nat) (w : World) (h1 : 8 ≤ n) (h2 : n ≤ 65536) :
    Calls Tryd.prog 5 #[.int .i64 n] w fun e w' => ∃ p, e = .returned (.tuple #[.pointer (some ⟨p, 0, none⟩), .int .i64 0]) ∧ w.heap.size ≤ p ∧ DiskOk (fun b => w.heap.size ≤ b ∧ b < w'.heap.size) w' p (DS.new n) ∧ Fr Nob w w' := by
  have hmk := run_make_row' (P := Tryd.prog) 47 35 (.slice none 0 0) 24 Tryd.underlying47 info_bytes rfl .i64 .i64 n (by omega) (by omega)
  go_enter Tryd.func5, Tryd.ntmps5
  go_wp2
  go_region
  · go_wp2
    go_ret2
    exact ⟨_, rfl, new_shape n w h1 h2 _ _ (.inl ⟨rfl, rfl⟩) _ rfl⟩
  · go_wp2
    go_ret2
    exact ⟨_, rfl, new_shape n w h1 h2 _ _ (.inr ⟨rfl, rfl⟩) _ rfl⟩
end Go.Proofs.YtilclfeaolhoeaaDoor
