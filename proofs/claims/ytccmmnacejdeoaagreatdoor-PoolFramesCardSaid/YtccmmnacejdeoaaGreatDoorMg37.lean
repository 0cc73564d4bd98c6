/-
  Ops5Open, in one text.
-/
import Derived.Test.YtccmmnacejdeoaaGreatDoorMg36
import Derived.Deep.Slices
import Derived.Deep.Fields
import Derived.ChangeSame
import Derived.SizedLaws
/-
  A script of three numbers each that came in, opened to its cells.
-/
namespace Go.Proofs.YtccmmnacejdeoaaGreatDoor
set_option linter.unusedSimpArgs false
set_option linter.unusedVariables false
open Go.ChangeShapes Go.WideShapes Go.Deep Go.RowKit

section
variable {H : Type} {enc : TypeId × Value → H} {w : World} {base : Nat}

set_option maxRecDepth 100000 in
theorem op5_of {fuel : Nat} {cs : List Value} {x : DataW H × List MemPlace} (h : DataW.trod enc Tryz.prog w base (fun _ => true) true fuel 48 cs = some x) :
    ∃ a b c : Int, cs = [.int .i64 a, .int .i64 b, .int .i64 c] := by
  have hs := Tryz.underlying48
  obtain ⟨xs, n, _, hx, hlen, hxl, hf⟩ := DataW.trod_struct hs h
  have hC : Tryz.prog.cellsOf 48 = 3 := by kernel_rfl
  have k2 : Tryz.prog.cellsOf 3 = 1 := by kernel_rfl
  rw [hC] at hlen
  match cs, hlen, xs, hxl with
  | [v0, v1, v2], _, [y0, y1, y2], _ =>
    have f0 : DataW.trod enc Tryz.prog w base (fun _ => true) true n 3 [v0] = some y0 := by simpa [k2] using hf 0 _ rfl
    have f1 : DataW.trod enc Tryz.prog w base (fun _ => true) true n 3 [v1] = some y1 := by simpa [k2] using hf 1 _ rfl
    have f2 : DataW.trod enc Tryz.prog w base (fun _ => true) true n 3 [v2] = some y2 := by simpa [k2] using hf 2 _ rfl
    obtain ⟨i0, e0, _, w0⟩ := DataW.trod_int Tryz.underlying3 f0
    obtain ⟨i1, e1, _, w1⟩ := DataW.trod_int Tryz.underlying3 f1
    obtain ⟨i2, e2, _, w2⟩ := DataW.trod_int Tryz.underlying3 f2
    simp only [List.cons.injEq, and_true] at e0 e1 e2
    subst e0 e1 e2
    exact ⟨i0, i1, i2, rfl⟩

set_option maxRecDepth 100000 in
theorem open_ops5 {fuel : Nat} {a : Option Addr} {len cap : Nat} {x : DataW H × List MemPlace} (h : DataW.trod enc Tryz.prog w base (fun _ => true) true fuel 46 [.slice a len cap] = some x) : ∃ os : List (Int × Int × Int), os.length = len ∧ Ops5In w a os := by
  have hC : Tryz.prog.cellsOf 48 = 3 := by kernel_rfl
  rcases open_slice Tryz.underlying46 h with ⟨hcs, _⟩ | ⟨a', len', cap', m, n, D, Pl, hcs, _, hl, hm, hmm, hx, hi⟩
  · simp only [List.cons.injEq, Value.slice.injEq, and_true] at hcs
    obtain ⟨rfl, rfl, rfl⟩ := hcs
    exact ⟨[], rfl, fun h => absurd h (by simp)⟩
  · simp only [List.cons.injEq, Value.slice.injEq, and_true] at hcs
    obtain ⟨rfl, rfl, rfl⟩ := hcs
    simp only [if_true] at hmm
    subst hmm hx
    rw [hC] at hi
    have key : ∀ i, i < len → ∃ o : Int × Int × Int, w.cells? base (a'.add (i * 3)) 3 = some [.int .i64 o.1, .int .i64 o.2.1, .int .i64 o.2.2] := by
      intro i hi'
      obtain ⟨cs', hc, ht⟩ := hi i (by omega)
      obtain ⟨a, b, c, e⟩ := op5_of ht
      exact ⟨(a, b, c), by rw [hc, e]⟩
    have hchoice : ∃ f : Nat → Int × Int × Int, ∀ i, i < len → w.cells? base (a'.add (i * 3)) 3 = some [.int .i64 (f i).1, .int .i64 (f i).2.1, .int .i64 (f i).2.2] := by
      refine ⟨fun i => if h : i < len then Classical.choose (key i h) else (0, 0, 0), fun i h => ?_⟩
      simp only [dif_pos h]
      exact Classical.choose_spec (key i h)
    obtain ⟨f, hf⟩ := hchoice
    refine ⟨(List.range len).map f, by simp, fun h0 => ?_⟩
    have h0' : 0 < len := by simpa using h0
    obtain ⟨b, off, spot⟩ := a'
    have hat : ∀ i, i < len → ∀ j v, [Value.int .i64 (f i).1, .int .i64 (f i).2.1, .int .i64 (f i).2.2][j]? = some v → w.cell? (((⟨b, off, spot⟩ : Addr).add (i * 3)).add j) = some v := by
      intro i hi' j v hv
      obtain ⟨_, hcl, hcat⟩ := World.cells?_some (hf i hi')
      have hj := (List.getElem?_eq_some_iff.1 hv).1
      rw [hcat j (by simpa using hj)]
      exact hv
    have hspot : spot = none := by
      have := hat 0 h0' 0 _ rfl
      simpa [Addr.add] using World.cell?_spot this
    subst hspot
    refine ⟨b, off, rfl, fun j x hx => ?_⟩
    have hj : j < len := by have := (List.getElem?_eq_some_iff.1 hx).1; simpa using this
    have ex : x = f j := by
      rw [List.getElem?_map, List.getElem?_range hj] at hx
      exact (Option.some.inj hx).symm
    subst ex
    have ha : ∀ k, ((⟨b, off, none⟩ : Addr).add (j * 3)).add k = ⟨b, off + j * 3 + k, none⟩ := by
      intro k; rw [add_plain, add_plain]
    have g := hat j hj
    refine ⟨?_, ?_, ?_⟩
    · have := g 0 _ rfl; rwa [ha] at this
    · have := g 1 _ rfl; rwa [ha] at this
    · have := g 2 _ rfl; rwa [ha] at this
end
end Go.Proofs.YtccmmnacejdeoaaGreatDoor
