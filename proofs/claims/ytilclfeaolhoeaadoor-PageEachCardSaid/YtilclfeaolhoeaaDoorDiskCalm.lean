/-
  A disk whose fuse is not lit.
-/
import Derived.Test.YtilclfeaolhoeaaDoorDiskCalls
namespace Go.Proofs.YtilclfeaolhoeaaDoor
set_option linter.unusedSimpArgs false
set_option linter.unusedVariables false
open Go.RowKit

theorem DiskOk.small {R : Nat → Prop} {w : World} {p : Nat} {S : DS} (h : DiskOk R w p S) : S.now.length ≤ 65536 := by
  obtain ⟨nb, lb, nv, lv, wv, ws, h⟩ := h
  exact h.small
/-- A disk that nothing threatens: what is read is what lasts with what waits. -/
structure Calm (S : DS) : Prop where
  fuse : S.fuse = -1
  dead : S.dead = false
  sum : setAll S.last S.waits = S.now
theorem Calm.new (n : Nat) : Calm (DS.new n) := ⟨rfl, rfl, rfl⟩
theorem Calm.wr_eq {S : DS} (h : Calm S) (i : Nat) (s : List UInt8) : S.wr i s = S.wr0 i s := by
  unfold DS.wr DS.burn
  rw [if_neg (by show ¬ 0 < S.fuse; rw [h.fuse]; omega)]
theorem Calm.wr {S : DS} (h : Calm S) (i : Nat) (s : List UInt8) : Calm (S.wr i s) := by
  rw [h.wr_eq]
  refine ⟨h.fuse, h.dead, ?_⟩
  show setAll S.last (S.waits ++ [(i, s)]) = S.now.set i s
  rw [setAll_snoc, h.sum]
theorem Calm.wr_now {S : DS} (h : Calm S) (i : Nat) (s : List UInt8) : (S.wr i s).now = S.now.set i s := by
  rw [h.wr_eq]; rfl
theorem Calm.flushed_eq {S : DS} (h : Calm S) : S.flushed = { S with last := S.now, waits := [] } := by
  unfold DS.flushed
  rw [if_neg (by rw [h.dead]; decide)]
  unfold DS.flush DS.burn
  rw [if_neg (by show ¬ 0 < S.fuse; rw [h.fuse]; omega)]
  unfold DS.flush0
  rw [h.sum]
theorem Calm.flushed {S : DS} (h : Calm S) : Calm S.flushed := by
  rw [h.flushed_eq]
  exact ⟨h.fuse, h.dead, rfl⟩
theorem chosen_nil0 {β : Type} (keep : List Int) : chosen keep ([] : List β) = [] := rfl
/-- A crash of a disk on which nothing waits. -/
theorem Calm.crash {S : DS} (h : Calm S) (hw : S.waits = []) (keep : List Int) : S.crash keep = S := by
  have hs := h.sum
  rw [hw] at hs
  have hl : S.last = S.now := hs
  unfold DS.crash
  rw [hw, chosen_nil0, setAll_nil, hl]
  have h1 := h.fuse
  have h2 := h.dead
  cases S
  simp_all
end Go.Proofs.YtilclfeaolhoeaaDoor
