/-
  Words for the rows: slices of ints and of bools that came in.
-/
import Derived.Test.YtidohbhcjnmmeaaDoorBase
import Derived.ProofKit
import Derived.OpenShut
import Derived.ShutString
import Derived.ChangeOld
import Derived.SizedLaws
import Derived.Deep.Grids
namespace Go.Proofs.YtidohbhcjnmmeaaDoor
set_option linter.unusedSimpArgs false
set_option linter.unusedVariables false
open Go.ChangeShapes Go.WideShapes Go.ChangeAt Go.RowKit

/-- The ints of a slice that came in. -/
def IntsIn (w : World) (A : Option Addr) (keep : List Int) : Prop :=
  (∀ x ∈ keep, (Lit.int .i64 x).wf = true) ∧ (0 < keep.length → ∃ kb ko, A = some ⟨kb, ko, none⟩ ∧ ∀ j x, keep[j]? = some x → w.cell? ⟨kb, ko + j, none⟩ = some (.int .i64 x))
/-- The bools of a slice that came in. -/
def BoolsIn (w : World) (A : Option Addr) (bs : List Bool) : Prop :=
  0 < bs.length → ∃ kb ko, A = some ⟨kb, ko, none⟩ ∧ ∀ j x, bs[j]? = some x → w.cell? ⟨kb, ko + j, none⟩ = some (.bool x)

theorem intsIn_of {w : World} {a : Addr} {len : Nat} {zs : List Int} (hl : len ≤ zs.length) (hcell : ∀ i, i < zs.length → w.cell? (a.add i) = some (.int .i64 (zs.getD i 0))) (hwz : ∀ n ∈ zs, (Lit.int .i64 n).wf = true) :
    IntsIn w (some a) (zs.take len) := by
  refine ⟨fun x hx => hwz x (List.mem_of_mem_take hx), fun h0 => ?_⟩
  obtain ⟨b, off, spot⟩ := a
  have h0' : 0 < zs.length := by simp at h0; omega
  have hspot : spot = none := by simpa [Addr.add] using World.cell?_spot (hcell 0 h0')
  subst hspot
  refine ⟨b, off, rfl, fun j x hx => ?_⟩
  have hj : j < len ∧ j < zs.length := by
    have := (List.getElem?_eq_some_iff.1 hx).1
    simp at this; omega
  have := hcell j hj.2
  rw [List.getElem?_take_of_lt hj.1, List.getElem?_eq_getElem hj.2] at hx
  injection hx with hx
  rw [← add_plain, this]
  simp [List.getD, List.getElem?_eq_getElem hj.2, hx]

theorem boolsIn_of {w : World} {a : Addr} {len cap : Nat} {B : Nat → Bool} (hl : len ≤ cap) (hcell : ∀ i, i < cap → w.cell? (a.add i) = some (.bool (B i))) :
    BoolsIn w (some a) ((List.range len).map B) := by
  intro h0
  obtain ⟨b, off, spot⟩ := a
  have h0' : 0 < len := by simpa using h0
  have hspot : spot = none := by simpa [Addr.add] using World.cell?_spot (hcell 0 (by omega))
  subst hspot
  refine ⟨b, off, rfl, fun j x hx => ?_⟩
  have hj : j < len := by
    have := (List.getElem?_eq_some_iff.1 hx).1
    simpa using this
  rw [List.getElem?_map, List.getElem?_range hj] at hx
  injection hx with hx
  rw [← add_plain, hcell j (by omega), hx]
theorem int_bounds {x : Int} (h : (Lit.int .i64 x).wf = true) : -9223372036854775808 ≤ x ∧ x ≤ 9223372036854775807 := by
  have e0 : IntKind.i64.min = -9223372036854775808 := by decide
  have e1 : IntKind.i64.max = 9223372036854775807 := by decide
  simpa only [Lit.wf, e0, e1, Bool.and_eq_true, decide_eq_true_eq] using h
end Go.Proofs.YtidohbhcjnmmeaaDoor
