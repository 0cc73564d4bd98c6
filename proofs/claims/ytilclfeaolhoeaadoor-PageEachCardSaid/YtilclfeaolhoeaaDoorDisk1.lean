/-
  What the small calls on a disk do: Sectors, Writes, Waiting, Dead, Fuse, burn, wrong.
-/
import Derived.Test.YtilclfeaolhoeaaDoorProg
import Derived.Test.YtilclfeaolhoeaaDoorDiskRep
import Derived.WalkKit
import Derived.WalkSpells
import Derived.WalkLawsBesides
namespace Go.Proofs.YtilclfeaolhoeaaDoor
set_option linter.unusedSimpArgs false
set_option linter.unusedVariables false
open Go.RowKit

def dptr (p : Nat) : Value := .pointer (some ⟨p, 0, none⟩)
def DS.burn (S : DS) : DS := if 0 < S.fuse then { S with fuse := S.fuse - 1, dead := decide (S.fuse - 1 = 0) } else S
def DS.set (S : DS) (n : Int) : DS := { S with fuse := max n (-1), dead := S.dead || decide (n = 0) }

section
variable {R : Nat → Prop} {w : World} {p : Nat} {S : DS}

/-- The facts that a walk wants of a disk's own cells. -/
theorem DiskAt.cells {nb lb : Nat} {nv lv : List Value} {wv : Value} {ws : List (Nat × Value)} (h : DiskAt R w p nb lb nv lv wv ws S) :
    w.cell? ⟨p, 0, none⟩ = some (.slice (some ⟨nb, 0, none⟩) S.now.length nv.length) ∧ w.cell? ⟨p, 1, none⟩ = some (.slice (some ⟨lb, 0, none⟩) S.now.length lv.length) ∧
    w.cell? ⟨p, 2, none⟩ = some wv ∧ w.cell? ⟨p, 3, none⟩ = some (.int .i64 S.writes) ∧ w.cell? ⟨p, 4, none⟩ = some (.int .i64 S.fuse) ∧ w.cell? ⟨p, 5, none⟩ = some (.bool S.dead) :=
  ⟨h.blk.cell 0, h.blk.cell 1, h.blk.cell 2, h.blk.cell 3, h.blk.cell 4, h.blk.cell 5⟩

theorem Sectors_any (h : DiskOk R w p S) : Calls Tryd.prog 26 #[.pointer (some ⟨p, 0, none⟩)] w fun e w' => e = .returned (.int .i64 S.now.length) ∧ w = w' := by
  obtain ⟨nb, lb, nv, lv, wv, ws, h⟩ := h
  obtain ⟨h0, h1, h2, h3, h4, h5⟩ := h.cells
  go_enter Tryd.func26, Tryd.ntmps26
  go_wp2
  go_ret
  exact ⟨rfl, rfl⟩
theorem Dead_any (h : DiskOk R w p S) : Calls Tryd.prog 15 #[.pointer (some ⟨p, 0, none⟩)] w fun e w' => e = .returned (.bool S.dead) ∧ w = w' := by
  obtain ⟨nb, lb, nv, lv, wv, ws, h⟩ := h
  obtain ⟨h0, h1, h2, h3, h4, h5⟩ := h.cells
  go_enter Tryd.func15, Tryd.ntmps15
  go_wp2
  go_ret
  exact ⟨rfl, rfl⟩

theorem burn_at {nb lb : Nat} {nv lv : List Value} {wv : Value} {ws : List (Nat × Value)} (h : DiskAt R w p nb lb nv lv wv ws S) :
    Calls Tryd.prog 32 #[.pointer (some ⟨p, 0, none⟩)] w fun e w' => e = .returned (.tuple #[]) ∧ DiskAt R w' p nb lb nv lv wv ws S.burn ∧ Fr (fun k => k = p) w w' := by
  obtain ⟨h0, h1, h2, h3, h4, h5⟩ := h.cells
  have f4 := h.blk.frozen 4
  have f5 := h.blk.frozen 5
  have H := Lib.hid h
  have g0 := h.fuse0
  have g1 := h.fuse1
  clear h
  by_cases hz : 0 < S.fuse
  · go_enter Tryd.func32, Tryd.ntmps32
    go_wp2
    go_end0
    have hf : Fr (fun k => k = p) w ((w.setCell ⟨p, 4, none⟩ (.int .i64 (S.fuse - 1))).setCell ⟨p, 5, none⟩ (.bool (S.fuse - 1 == 0))) := ((Fr.refl (fun k => k = p) w).setCell (p := ⟨p, 4, none⟩) (.inr rfl) _).setCell (p := ⟨p, 5, none⟩) (.inr rfl) _
    refine ⟨rfl, ?_, hf⟩
    have e : S.burn = { S with writes := S.writes, fuse := S.fuse - 1, dead := (S.fuse - 1 == 0) } := by
      unfold DS.burn; rw [if_pos hz]; rfl
    rw [e]
    exact H.out.small_set hf _ _ _ (by omega) (by omega) ((H.out.blk.set_ 4 _).set_ 5 _)
  · go_enter Tryd.func32, Tryd.ntmps32
    go_wp2
    go_end0
    refine ⟨rfl, ?_, Fr.refl _ _⟩
    have e : S.burn = S := by
      unfold DS.burn; rw [if_neg (by omega)]
    rw [e]
    exact H.out

theorem Fuse_anyD (n : Int) (h : DiskOk R w p S) (hn : -9223372036854775808 ≤ n) (hn2 : n ≤ 9223372036854775807) :
    Calls Tryd.prog 13 #[.pointer (some ⟨p, 0, none⟩), .int .i64 n] w fun e w' => e = .returned (.tuple #[]) ∧ DiskOk R w' p (S.set n) ∧ FrD R w w' := by
  obtain ⟨nb, lb, nv, lv, wv, ws, h⟩ := h
  obtain ⟨h0, h1, h2, h3, h4, h5⟩ := h.cells
  have f4 := h.blk.frozen 4
  have f5 := h.blk.frozen 5
  have H := Lib.hid h
  clear h
  have g : max n (-1) = if n ≤ -1 then -1 else n := by omega
  have hD : ∀ D : Bool, D = (S.dead || decide (n = 0)) → ∀ F : Int, F = max n (-1) → -1 ≤ F → F ≤ 9223372036854775807 → ∀ w', w' = (w.setCell ⟨p, 4, none⟩ (.int .i64 F)).setCell ⟨p, 5, none⟩ (.bool D) →
      DiskOk R w' p (S.set n) ∧ FrD R w w' := by
    rintro D hD F hF hF0 hF1 w' rfl
    have hf : Fr (fun k => k = p) w ((w.setCell ⟨p, 4, none⟩ (.int .i64 F)).setCell ⟨p, 5, none⟩ (.bool D)) := ((Fr.refl (fun k => k = p) w).setCell (p := ⟨p, 4, none⟩) (.inr rfl) _).setCell (p := ⟨p, 5, none⟩) (.inr rfl) _
    have e : S.set n = { S with writes := S.writes, fuse := F, dead := D } := by rw [hD, hF]; rfl
    rw [e]
    exact ⟨⟨_, _, _, _, _, _, H.out.small_set hf _ _ _ hF0 hF1 ((H.out.blk.set_ 4 _).set_ 5 _)⟩, hf.mono (fun i _ hi => by subst hi; exact ⟨H.out.rp, not_u8 H.out.blk (by decide)⟩)⟩
  have HD := Lib.hid hD
  clear hD g
  rcases (by omega : n ≤ -1 ∨ n = 0 ∨ 0 < n) with hm | hm | hm
  · have hn0 : (n == 0) = false := by simp; omega
    by_cases hd : S.dead = true
    all_goals
      go_enter Tryd.func13, Tryd.ntmps13
      go_wp2
      all_goals
        go_end0
        exact ⟨rfl, HD.out _ (by simp [hd] <;> omega) _ (by omega) (by omega) (by omega) _ rfl⟩
  · subst hm
    by_cases hd : S.dead = true
    all_goals
      go_enter Tryd.func13, Tryd.ntmps13
      go_wp2
      go_end0
      exact ⟨rfl, HD.out _ (by simp [hd]) _ (by omega) (by omega) (by omega) _ rfl⟩
  · have hn0 : (n == 0) = false := by simp; omega
    by_cases hd : S.dead = true
    all_goals
      go_enter Tryd.func13, Tryd.ntmps13
      go_wp2
      all_goals
        go_end0
        exact ⟨rfl, HD.out _ (by simp [hd] <;> omega) _ (by omega) (by omega) (by omega) _ rfl⟩

theorem Fuse_any (n : Int) (h : DiskOk R w p S) (hn : -9223372036854775808 ≤ n) (hn2 : n ≤ 9223372036854775807) :
    Calls Tryd.prog 13 #[.pointer (some ⟨p, 0, none⟩), .int .i64 n] w fun e w' => e = .returned (.tuple #[]) ∧ DiskOk R w' p (S.set n) ∧ Fr R w w' :=
  (Fuse_anyD n h hn hn2).mono (fun _ _ h => ⟨h.1, h.2.1, FrD.fr h.2.2⟩)

/-- What is wrong with a sector's number, or the disk. -/
def DS.wrong (S : DS) (i : Int) : Int := if i < 0 ∨ (S.now.length : Int) ≤ i then 1 else if S.dead = true then 50 else 0

theorem wrong_any (i : Int) (h : DiskOk R w p S) :
    Calls Tryd.prog 43 #[.pointer (some ⟨p, 0, none⟩), .int .i64 i] w fun e w' => e = .returned (.int .i64 (S.wrong i)) ∧ w = w' := by
  obtain ⟨nb, lb, nv, lv, wv, ws, h⟩ := h
  obtain ⟨h0, h1, h2, h3, h4, h5⟩ := h.cells
  clear h
  unfold DS.wrong
  rcases (by omega : i < 0 ∨ (0 ≤ i ∧ (S.now.length : Int) ≤ i) ∨ (0 ≤ i ∧ i < (S.now.length : Int))) with hi | ⟨hi, hi2⟩ | ⟨hi, hi2⟩
  · rw [if_pos (.inl hi)]
    go_enter Tryd.func43, Tryd.ntmps43
    go_wp2
    go_ret
    exact ⟨rfl, rfl⟩
  · rw [if_pos (.inr hi2)]
    go_enter Tryd.func43, Tryd.ntmps43
    go_wp2
    go_ret
    exact ⟨rfl, rfl⟩
  · rw [if_neg (by omega)]
    by_cases hd : S.dead = true
    all_goals
      simp only [hd, if_true, if_false, Bool.false_eq_true]
      go_enter Tryd.func43, Tryd.ntmps43
      go_wp2
      go_ret
      exact ⟨rfl, rfl⟩

end
end Go.Proofs.YtilclfeaolhoeaaDoor
