/-
  The document's own disk (terrierref1.Disk): how it lies in memory, and what its calls do. It stands for the same DS as the program's; of 'now' it has nothing by itself.
-/
import Derived.Test.YtieiopeblleheaaDiskApi
import Derived.Test.YtieiopeblleheaaRoundRegion
namespace Go.Proofs.Ytieiopeblleheaa
set_option linter.unusedSimpArgs false
set_option linter.unusedVariables false
open Go.RowKit

def strv (s : List UInt8) : Value := .string ⟨s.toArray⟩
def strCells (L : List (List UInt8)) : List Value := L.map strv
def oneCells (ws : List (Nat × List UInt8)) : List Value := ws.flatMap fun x => [.int .i64 x.1, strv x.2]

structure RefAt (R : Nat → Prop) (w : World) (q : Nat) (s1 s2 : Value) (S : DS) : Prop where
  blk : Blk w q 87 #[s1, s2, .int .i64 S.writes, .int .i64 S.fuse, .bool S.dead]
  own1 : w.ownsRow 0 9 1 s1 S.last.length (strCells S.last)
  own2 : w.ownsRow 0 89 2 s2 S.waits.length (oneCells S.waits)
  rq : R q
  r1 : ∀ g, s1.ownBlock = some g → R g
  r2 : ∀ g, s2.ownBlock = some g → R g
  lt : ∀ b, R b → b < w.heap.size
  pos : 0 < S.last.length
  small : S.last.length ≤ 65536
  wl : ∀ x ∈ S.waits, x.1 < S.last.length
  fuse0 : -1 ≤ S.fuse
  fuse1 : S.fuse ≤ 9223372036854775807
def RefOk (R : Nat → Prop) (w : World) (q : Nat) (S : DS) : Prop := ∃ s1 s2, RefAt R w q s1 s2 S

section
variable {R : Nat → Prop} {w : World} {q : Nat} {S : DS} {s1 s2 : Value}
theorem RefAt.fr {F : Nat → Prop} {w' : World} (h : RefAt R w q s1 s2 S) (hf : Fr F w w') (hd : ∀ b, R b → ¬ F b) : RefAt R w' q s1 s2 S :=
  { h with
    blk := h.blk.fr hf (hd _ h.rq)
    own1 := own_fr h.own1 hf (fun g hg => hd g (h.r1 g hg))
    own2 := own_fr h.own2 hf (fun g hg => hd g (h.r2 g hg))
    lt := fun b hb => Nat.lt_of_lt_of_le (h.lt b hb) hf.size }
theorem RefOk.fr {F : Nat → Prop} {w' : World} (h : RefOk R w q S) (hf : Fr F w w') (hd : ∀ b, R b → ¬ F b) : RefOk R w' q S := by
  obtain ⟨s1, s2, h⟩ := h; exact ⟨s1, s2, h.fr hf hd⟩
theorem RefOk.new {w' : World} (h : RefOk R w q S) (hf : Fr Nob w w') : RefOk R w' q S := h.fr hf (fun _ _ h => h)
theorem RefOk.lt (h : RefOk R w q S) {b : Nat} (hb : R b) : b < w.heap.size := by
  obtain ⟨s1, s2, h⟩ := h; exact h.lt b hb
theorem RefAt.cells (h : RefAt R w q s1 s2 S) : w.cell? ⟨q, 0, none⟩ = some s1 ∧ w.cell? ⟨q, 1, none⟩ = some s2 ∧ w.cell? ⟨q, 2, none⟩ = some (.int .i64 S.writes) ∧ w.cell? ⟨q, 3, none⟩ = some (.int .i64 S.fuse) ∧ w.cell? ⟨q, 4, none⟩ = some (.bool S.dead) :=
  ⟨h.blk.cell 0, h.blk.cell 1, h.blk.cell 2, h.blk.cell 3, h.blk.cell 4⟩
theorem RefAt.form1 (h : RefAt R w q s1 s2 S) : ∃ g cap, s1 = .slice (some ⟨g, 0, none⟩) S.last.length cap ∧ g < w.heap.size := by
  obtain ⟨g, cap, e, _, hl⟩ := h.own1.form h.pos
  exact ⟨g, cap, e, hl⟩
theorem RefAt.form2 (h : RefAt R w q s1 s2 S) : ∃ A c, s2 = .slice A S.waits.length c := by
  rcases h.own2.2 with ⟨e, e2⟩ | ⟨g, cap, cur, e, _⟩
  · rw [e2]; exact ⟨_, _, e⟩
  · exact ⟨_, _, e⟩
/-- The disk's own small cells change. -/
theorem RefAt.small_set {w' : World} (h : RefAt R w q s1 s2 S) (hf : Fr (fun k => k = q) w w') (W F : Int) (D : Bool) (hF0 : -1 ≤ F) (hF1 : F ≤ 9223372036854775807)
    (hb : Blk w' q 87 #[s1, s2, .int .i64 W, .int .i64 F, .bool D]) : RefAt R w' q s1 s2 { S with writes := W, fuse := F, dead := D } :=
  { h with
    blk := hb
    own1 := own_fr h.own1 hf (fun g hg he => by subst he; exact Blk.own_ne h.blk h.own1 (by decide) (by rw [hg]))
    own2 := own_fr h.own2 hf (fun g hg he => by subst he; exact Blk.own_ne h.blk h.own2 (by decide) (by rw [hg]))
    lt := fun b hb => Nat.lt_of_lt_of_le (h.lt b hb) hf.size
    fuse0 := hF0
    fuse1 := hF1 }

theorem RefSet_at (n : Int) (h : RefAt R w q s1 s2 S) (hn : -9223372036854775808 ≤ n) (hn2 : n ≤ 9223372036854775807) :
    Calls Try.prog 29 #[.pointer (some ⟨q, 0, none⟩), .int .i64 n] w fun e w' => e = .returned (.tuple #[]) ∧ RefAt R w' q s1 s2 (S.set n) ∧ Fr (fun k => k = q) w w' := by
  obtain ⟨h0, h1, h2, h3, h4⟩ := h.cells
  have f3 := h.blk.frozen 3
  have f4 := h.blk.frozen 4
  have H := Lib.hid h
  clear h h0 h1
  have hD : ∀ D : Bool, D = (S.dead || decide (n = 0)) → ∀ F : Int, F = max n (-1) → -1 ≤ F → F ≤ 9223372036854775807 → ∀ w', Fr (fun k => k = q) w w' → Blk w' q 87 #[s1, s2, .int .i64 S.writes, .int .i64 F, .bool D] →
      RefAt R w' q s1 s2 (S.set n) ∧ Fr (fun k => k = q) w w' := by
    rintro D hD F hF hF0 hF1 w' hf hb
    have e : S.set n = { S with writes := S.writes, fuse := F, dead := D } := by rw [hD, hF]; rfl
    rw [e]
    exact ⟨H.out.small_set hf _ _ _ hF0 hF1 hb, hf⟩
  have HD := Lib.hid hD
  clear hD
  have hf0 : ∀ F, Fr (fun k => k = q) w (w.setCell ⟨q, 3, none⟩ (.int .i64 F)) := fun F => (Fr.refl (fun k => k = q) w).setCell (p := ⟨q, 3, none⟩) (.inr rfl) _
  rcases (by omega : n ≤ -1 ∨ n = 0 ∨ 0 < n) with hm | hm | hm
  · have hn0 : (n == 0) = false := by simp; omega
    go_enter Try.func29, Try.ntmps29
    go_wp2
    all_goals
      go_end0
      exact ⟨rfl, HD.out S.dead (by simp; omega) _ (by omega) (by omega) (by omega) _ (hf0 _) (H.out.blk.set_ 3 _)⟩
  · subst hm
    go_enter Try.func29, Try.ntmps29
    go_wp2
    go_end0
    exact ⟨rfl, HD.out true (by simp) _ (by omega) (by omega) (by omega) _ ((hf0 _).setCell (p := ⟨q, 4, none⟩) (.inr rfl) _) ((H.out.blk.set_ 3 _).set_ 4 _)⟩
  · have hn0 : (n == 0) = false := by simp; omega
    go_enter Try.func29, Try.ntmps29
    go_wp2
    all_goals
      go_end0
      exact ⟨rfl, HD.out S.dead (by simp; omega) _ (by omega) (by omega) (by omega) _ (hf0 _) (H.out.blk.set_ 3 _)⟩

theorem DS.burn_set {S : DS} (hd : S.dead = false) : S.burn = if 0 < S.fuse then S.set (S.fuse - 1) else S := by
  unfold DS.burn DS.set
  split
  · rw [hd, show max (S.fuse - 1) (-1) = S.fuse - 1 from by omega, Bool.false_or]
  · rfl

theorem RefBurn_at (h : RefAt R w q s1 s2 S) (hd : S.dead = false) :
    Calls Try.prog 49 #[.pointer (some ⟨q, 0, none⟩)] w fun e w' => e = .returned (.tuple #[]) ∧ RefAt R w' q s1 s2 S.burn ∧ Fr (fun k => k = q) w w' := by
  rw [DS.burn_set hd]
  obtain ⟨h0, h1, h2, h3, h4⟩ := h.cells
  have H := Lib.hid h
  have g0 := h.fuse0
  have g1 := h.fuse1
  clear h
  by_cases hz : 0 < S.fuse
  · rw [if_pos hz]
    go_enter Try.func49, Try.ntmps49
    go_wp2_with fail
    refine (RefSet_at (S.fuse - 1) H.out (by omega) (by omega)).mono ?_
    rintro e w' ⟨rfl, hR, hf⟩
    have HR := Lib.hid hR
    have Hf := Lib.hid hf
    clear hR hf
    go_wp2
    go_end0
    exact ⟨rfl, HR.out, Hf.out⟩
  · rw [if_neg hz]
    go_enter Try.func49, Try.ntmps49
    go_wp2
    go_end0
    exact ⟨rfl, H.out, Fr.refl _ _⟩
end
end Go.Proofs.Ytieiopeblleheaa
