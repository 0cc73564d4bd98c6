/-
  What a log tells of itself: Size, Room, First, Next, Flushed.
-/
import Derived.Test.YtieiopeblleheaaWalRep
namespace Go.Proofs.Ytieiopeblleheaa
set_option linter.unusedSimpArgs false
set_option linter.unusedVariables false
open Go.RowKit
section
variable {R : Nat → Prop} {w : World} {p d : Nat} {L : LS}
theorem Size_any (h : LogOk R w p d L) : Calls Try.prog 33 #[.pointer (some ⟨p, 0, none⟩)] w fun e w' => e = .returned (.int .i64 (48 * ((L.n : Int) - 8))) ∧ w = w' := by
  obtain ⟨lv, rv, h⟩ := h
  obtain ⟨_, _, h2, _⟩ := h.cells
  have hp := h.blk.lt
  have g0 := h.n0
  have g1 := h.n1
  clear h
  go_enter Try.func33, Try.ntmps33
  go_wp2
  go_ret
  exact ⟨rfl, rfl⟩
theorem Room_any (h : LogOk R w p d L) : Calls Try.prog 34 #[.pointer (some ⟨p, 0, none⟩)] w fun e w' => e = .returned (.int .i64 L.room) ∧ w = w' := by
  obtain ⟨lv, rv, h⟩ := h
  obtain ⟨_, _, _, _, _, _, _, _, _, _, _, h2⟩ := h.cells
  have hp := h.blk.lt
  clear h
  go_enter Try.func34, Try.ntmps34
  go_wp2
  go_ret
  exact ⟨rfl, rfl⟩
theorem First_any (h : LogOk R w p d L) : Calls Try.prog 35 #[.pointer (some ⟨p, 0, none⟩)] w fun e w' => e = .returned (.int .u64 L.first) ∧ w = w' := by
  obtain ⟨lv, rv, h⟩ := h
  obtain ⟨_, _, _, h2, _⟩ := h.cells
  have hp := h.blk.lt
  clear h
  go_enter Try.func35, Try.ntmps35
  go_wp2
  go_ret
  exact ⟨rfl, rfl⟩
theorem Next_any (h : LogOk R w p d L) : Calls Try.prog 36 #[.pointer (some ⟨p, 0, none⟩)] w fun e w' => e = .returned (.int .u64 L.next) ∧ w = w' := by
  obtain ⟨lv, rv, h⟩ := h
  obtain ⟨_, _, _, _, h2, _⟩ := h.cells
  have hp := h.blk.lt
  clear h
  go_enter Try.func36, Try.ntmps36
  go_wp2
  go_ret
  exact ⟨rfl, rfl⟩
theorem Flushed_any (h : LogOk R w p d L) : Calls Try.prog 37 #[.pointer (some ⟨p, 0, none⟩)] w fun e w' => e = .returned (.int .u64 L.flushed) ∧ w = w' := by
  obtain ⟨lv, rv, h⟩ := h
  obtain ⟨_, _, _, _, _, h2, _⟩ := h.cells
  have hp := h.blk.lt
  clear h
  go_enter Try.func37, Try.ntmps37
  go_wp2
  go_ret
  exact ⟨rfl, rfl⟩
end
end Go.Proofs.Ytieiopeblleheaa
