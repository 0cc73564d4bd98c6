/-
  A slice of Raws that came in, opened to its cells.
-/
import Derived.Test.YtilclfeaolhoeaaDoorPgAgain
import Derived.Deep.Slices
import Derived.Deep.Fields
import Derived.ChangeSame
import Derived.SizedLaws
namespace Go.Proofs.YtilclfeaolhoeaaDoor
set_option linter.unusedSimpArgs false
set_option linter.unusedVariables false
open Go.ChangeShapes Go.WideShapes Go.Deep Go.RowKit

section
variable {H : Type} {enc : TypeId × Value → H} {w : World} {base : Nat}

set_option maxRecDepth 100000 in
theorem raw_of {fuel : Nat} {cs : List Value} {x : DataW H × List MemPlace} (h : DataW.trod enc Tryd.prog w base (fun _ => true) true fuel 33 cs = some x) :
    ∃ a b : Int, cs = [.int .i64 a, .int .i64 b] := by
  have hs := Tryd.underlying33
  obtain ⟨xs, n, _, hx, hlen, hxl, hf⟩ := DataW.trod_struct hs h
  have hC : Tryd.prog.cellsOf 33 = 2 := by kernel_rfl
  have k2 : Tryd.prog.cellsOf 3 = 1 := by kernel_rfl
  rw [hC] at hlen
  match cs, hlen, xs, hxl with
  | [v0, v1], _, [y0, y1], _ =>
    have f0 : DataW.trod enc Tryd.prog w base (fun _ => true) true n 3 [v0] = some y0 := by simpa [k2] using hf 0 _ rfl
    have f1 : DataW.trod enc Tryd.prog w base (fun _ => true) true n 3 [v1] = some y1 := by simpa [k2] using hf 1 _ rfl
    obtain ⟨i0, e0, _, w0⟩ := DataW.trod_int Tryd.underlying3 f0
    obtain ⟨i1, e1, _, w1⟩ := DataW.trod_int Tryd.underlying3 f1
    simp only [List.cons.injEq, and_true] at e0 e1
    subst e0 e1
    exact ⟨i0, i1, rfl⟩

set_option maxRecDepth 100000 in
theorem open_raws {fuel : Nat} {a : Option Addr} {len cap : Nat} {x : DataW H × List MemPlace} (h : DataW.trod enc Tryd.prog w base (fun _ => true) true fuel 22 [.slice a len cap] = some x)
    (hz : ∀ n ∈ x.1.weights Tryd.prog 22, n ≤ reachBytes) : ∃ rs : List (Int × Int), rs.length = len ∧ RawsIn w a rs ∧ len ≤ 4000000000000 * 4 := by
  have hC : Tryd.prog.cellsOf 33 = 2 := by kernel_rfl
  have hB : Tryd.prog.bytesOf 33 = 16 := by kernel_rfl
  rcases open_slice Tryd.underlying22 h with ⟨hcs, _⟩ | ⟨a', len', cap', m, n, D, Pl, hcs, _, hl, hm, hmm, hx, hi⟩
  · simp only [List.cons.injEq, Value.slice.injEq, and_true] at hcs
    obtain ⟨rfl, rfl, rfl⟩ := hcs
    exact ⟨[], rfl, fun h => absurd h (by simp), by omega⟩
  · simp only [List.cons.injEq, Value.slice.injEq, and_true] at hcs
    obtain ⟨rfl, rfl, rfl⟩ := hcs
    simp only [if_true] at hmm
    subst hmm hx
    rw [hC] at hi
    have key : ∀ i, i < len → ∃ o : Int × Int, w.cells? base (a'.add (i * 2)) 2 = some [.int .i64 o.1, .int .i64 o.2] := by
      intro i hi'
      obtain ⟨cs', hc, ht⟩ := hi i (by omega)
      obtain ⟨a, b, e⟩ := raw_of ht
      exact ⟨(a, b), by rw [hc, e]⟩
    have hchoice : ∃ f : Nat → Int × Int, ∀ i, i < len → w.cells? base (a'.add (i * 2)) 2 = some [.int .i64 (f i).1, .int .i64 (f i).2] := by
      refine ⟨fun i => if h : i < len then Classical.choose (key i h) else (0, 0), fun i h => ?_⟩
      simp only [dif_pos h]
      exact Classical.choose_spec (key i h)
    obtain ⟨f, hf⟩ := hchoice
    refine ⟨(List.range len).map f, by simp, fun h0 => ?_, ?_⟩
    · have h0' : 0 < len := by simpa using h0
      obtain ⟨b, off, spot⟩ := a'
      have hat : ∀ i, i < len → ∀ j v, [Value.int .i64 (f i).1, .int .i64 (f i).2][j]? = some v → w.cell? (((⟨b, off, spot⟩ : Addr).add (i * 2)).add j) = some v := by
        intro i hi' j v hv
        obtain ⟨_, hcl, hcat⟩ := World.cells?_some (hf i hi')
        have hj := (List.getElem?_eq_some_iff.1 hv).1
        rw [hcat j (by simpa using hj)]
        exact hv
      have hspot : spot = none := by
        have := hat 0 h0' 0 _ rfl
        simpa [Addr.add] using World.cell?_spot this
      subst hspot
      refine ⟨b, off, rfl, fun j x hx => ?_⟩
      have hj : j < len := by have := (List.getElem?_eq_some_iff.1 hx).1; simpa using this
      have ex : x = f j := by
        rw [List.getElem?_map, List.getElem?_range hj] at hx
        exact (Option.some.inj hx).symm
      subst ex
      have ha : ∀ k, ((⟨b, off, none⟩ : Addr).add (j * 2)).add k = ⟨b, off + j * 2 + k, none⟩ := by
        intro k; rw [add_plain, add_plain]
      have g := hat j hj
      refine ⟨?_, ?_⟩
      · have := g 0 _ rfl; rwa [ha] at this
      · have := g 1 _ rfl; rwa [ha] at this
    · have := hz ((((List.range len).map D).length + ((List.range (m - len)).map fun j => D (len + j)).length) * 16) (by simp only [DataW.weights, Tryd.underlying22, hB, List.mem_cons]; first | exact .inl rfl | exact .inl trivial)
      simp only [List.length_map, List.length_range, reachBytes] at this
      omega
end
end Go.Proofs.YtilclfeaolhoeaaDoor
