/-
  A command that came in, opened to its cells.
-/
import Derived.Test.YtidohbhcjnmmeaaDoorCmdTextsW
import Derived.Deep.Slices
import Derived.Deep.Fields
import Derived.ChangeSame
import Derived.SizedLaws
import Derived.ProofKit
import Derived.Test.YtidohbhcjnmmeaaDoorRowKitX
namespace Go.Proofs.YtidohbhcjnmmeaaDoor
set_option linter.unusedSimpArgs false
set_option linter.unusedVariables false
open Go.ChangeShapes Go.WideShapes Go.Deep Go.RowKit

section
variable {H : Type} {enc : TypeId × Value → H} {w : World} {base : Nat}

set_option maxRecDepth 100000 in
theorem p_of {fuel : Nat} {cs : List Value} {x : DataW H × List MemPlace} (h : DataW.trod enc Tryd.prog w base (fun _ => true) true fuel 30 cs = some x) :
    ∃ a b : Int, cs = [.int .i64 a, .int .i64 b] ∧ I64 a ∧ I64 b := by
  have hs := Tryd.underlying30
  obtain ⟨xs, n, _, hx, hlen, hxl, hf⟩ := DataW.trod_struct hs h
  have hC : Tryd.prog.cellsOf 30 = 2 := by kernel_rfl
  have k2 : Tryd.prog.cellsOf 2 = 1 := by kernel_rfl
  rw [hC] at hlen
  match cs, hlen, xs, hxl with
  | [v0, v1], _, [y0, y1], _ =>
    have f0 : DataW.trod enc Tryd.prog w base (fun _ => true) true n 2 [v0] = some y0 := by simpa [k2] using hf 0 _ rfl
    have f1 : DataW.trod enc Tryd.prog w base (fun _ => true) true n 2 [v1] = some y1 := by simpa [k2] using hf 1 _ rfl
    obtain ⟨i0, e0, _, w0⟩ := DataW.trod_int Tryd.underlying2 f0
    obtain ⟨i1, e1, _, w1⟩ := DataW.trod_int Tryd.underlying2 f1
    simp only [List.cons.injEq, and_true] at e0 e1
    subst e0 e1
    exact ⟨i0, i1, rfl, int_bounds w0, int_bounds w1⟩

set_option maxRecDepth 100000 in
theorem open_ps {fuel : Nat} {v : Value} {x : DataW H × List MemPlace} (h : DataW.trod enc Tryd.prog w base (fun _ => true) true fuel 26 [v] = some x) :
    ∃ a cap, ∃ rs : List (Int × Int), v = .slice a rs.length cap ∧ rs.length ≤ cap ∧ PtsIn w a rs ∧ ∀ z ∈ rs, I64 z.1 ∧ I64 z.2 := by
  have hC : Tryd.prog.cellsOf 30 = 2 := by kernel_rfl
  rcases open_slice Tryd.underlying26 h with ⟨hcs, _⟩ | ⟨a', len', cap', m, n, D, Pl, hcs, _, hl, hm, hmm, hx, hi⟩
  · simp only [List.cons.injEq, and_true] at hcs
    exact ⟨none, 0, [], hcs, Nat.le_refl _, fun h => absurd h (by simp), fun z hz => by cases hz⟩
  · simp only [List.cons.injEq, and_true] at hcs
    simp only [if_true] at hmm
    subst hmm
    rw [hC] at hi
    have key : ∀ i, i < len' → ∃ o : Int × Int, w.cells? base (a'.add (i * 2)) 2 = some [.int .i64 o.1, .int .i64 o.2] ∧ I64 o.1 ∧ I64 o.2 := by
      intro i hi'
      obtain ⟨cs', hc, ht⟩ := hi i (by omega)
      obtain ⟨a, b, e, h1, h2⟩ := p_of ht
      exact ⟨(a, b), by rw [hc, e], h1, h2⟩
    have hchoice : ∃ f : Nat → Int × Int, ∀ i, i < len' → w.cells? base (a'.add (i * 2)) 2 = some [.int .i64 (f i).1, .int .i64 (f i).2] ∧ I64 (f i).1 ∧ I64 (f i).2 := by
      refine ⟨fun i => if h : i < len' then Classical.choose (key i h) else (0, 0), fun i h => ?_⟩
      simp only [dif_pos h]
      exact Classical.choose_spec (key i h)
    obtain ⟨f, hf⟩ := hchoice
    have hlr : ((List.range len').map f).length = len' := by simp
    refine ⟨some a', m, (List.range len').map f, by rw [hlr]; exact hcs, by rw [hlr]; omega, fun h0 => ?_, fun z hz => ?_⟩
    · have h0' : 0 < len' := by simpa using h0
      obtain ⟨b, off, spot⟩ := a'
      have hat : ∀ i, i < len' → ∀ j v, [Value.int .i64 (f i).1, .int .i64 (f i).2][j]? = some v → w.cell? (((⟨b, off, spot⟩ : Addr).add (i * 2)).add j) = some v := by
        intro i hi' j v hv
        obtain ⟨_, hcl, hcat⟩ := World.cells?_some (hf i hi').1
        have hj := (List.getElem?_eq_some_iff.1 hv).1
        rw [hcat j (by simpa using hj)]
        exact hv
      have hspot : spot = none := by
        have := hat 0 h0' 0 _ rfl
        simpa [Addr.add] using World.cell?_spot this
      subst hspot
      refine ⟨b, off, rfl, fun j x hx => ?_⟩
      have hj : j < len' := by have := (List.getElem?_eq_some_iff.1 hx).1; simpa using this
      have ex : x = f j := by
        rw [List.getElem?_map, List.getElem?_range hj] at hx
        exact (Option.some.inj hx).symm
      subst ex
      have ha : ∀ k, ((⟨b, off, none⟩ : Addr).add (j * 2)).add k = ⟨b, off + j * 2 + k, none⟩ := by
        intro k; rw [add_plain, add_plain]
      have g := hat j hj
      refine ⟨?_, ?_⟩
      · have := g 0 _ rfl; rwa [ha] at this
      · have := g 1 _ rfl; rwa [ha] at this
    · obtain ⟨i, hi', rfl⟩ := List.mem_map.1 hz
      exact (hf i (List.mem_range.1 hi')).2

set_option maxRecDepth 100000 in
theorem op_of {fuel : Nat} {cs : List Value} {x : DataW H × List MemPlace} (h : DataW.trod enc Tryd.prog w base (fun _ => true) true fuel 28 cs = some x) :
    ∃ (o a b : Int) (fr : Bool) (L : Value) (n : Nat) (y : DataW H × List MemPlace), cs = [.int .i64 o, .int .i64 a, .int .i64 b, .bool fr, L] ∧ I64 a ∧ I64 b ∧ DataW.trod enc Tryd.prog w base (fun _ => true) true n 26 [L] = some y := by
  have hs := Tryd.underlying28
  obtain ⟨xs, n, _, hx, hlen, hxl, hf⟩ := DataW.trod_struct hs h
  have hC : Tryd.prog.cellsOf 28 = 5 := by kernel_rfl
  have k1 : Tryd.prog.cellsOf 3 = 1 := by kernel_rfl
  have k4 : Tryd.prog.cellsOf 4 = 1 := by kernel_rfl
  have k5 : Tryd.prog.cellsOf 26 = 1 := by kernel_rfl
  rw [hC] at hlen
  match cs, hlen, xs, hxl with
  | [v0, v1, v2, v3, v4], _, [y0, y1, y2, y3, y4], _ =>
    have f0 : DataW.trod enc Tryd.prog w base (fun _ => true) true n 3 [v0] = some y0 := by simpa [k1] using hf 0 _ rfl
    have f1 : DataW.trod enc Tryd.prog w base (fun _ => true) true n 3 [v1] = some y1 := by simpa [k1] using hf 1 _ rfl
    have f2 : DataW.trod enc Tryd.prog w base (fun _ => true) true n 3 [v2] = some y2 := by simpa [k1] using hf 2 _ rfl
    have f3 : DataW.trod enc Tryd.prog w base (fun _ => true) true n 4 [v3] = some y3 := by simpa [k4] using hf 3 _ rfl
    have f4 : DataW.trod enc Tryd.prog w base (fun _ => true) true n 26 [v4] = some y4 := by simpa [k5] using hf 4 _ rfl
    obtain ⟨i0, e0, _, w0⟩ := DataW.trod_int Tryd.underlying3 f0
    obtain ⟨i1, e1, _, w1⟩ := DataW.trod_int Tryd.underlying3 f1
    obtain ⟨i2, e2, _, w2⟩ := DataW.trod_int Tryd.underlying3 f2
    obtain ⟨i3, e3, _⟩ := DataW.trod_bool Tryd.underlying4 f3
    simp only [List.cons.injEq, and_true] at e0 e1 e2 e3
    subst e0 e1 e2 e3
    exact ⟨i0, i1, i2, i3, v4, n, y4, rfl, int_bounds w1, int_bounds w2, f4⟩

set_option maxRecDepth 100000 in
theorem cmd_of {fuel : Nat} {cs : List Value} {x : DataW H × List MemPlace} (h : DataW.trod enc Tryd.prog w base (fun _ => true) true fuel 32 cs = some x) :
    ∃ c : Cm, CmIn w c (.agg cs.toArray) ∧ c.Ok := by
  have hs := Tryd.underlying32
  obtain ⟨xs, n, _, hx, hlen, hxl, hf⟩ := DataW.trod_struct hs h
  have hC : Tryd.prog.cellsOf 32 = 11 := by kernel_rfl
  have k1 : Tryd.prog.cellsOf 3 = 1 := by kernel_rfl
  have k2 : Tryd.prog.cellsOf 28 = 5 := by kernel_rfl
  have k3 : Tryd.prog.cellsOf 30 = 2 := by kernel_rfl
  rw [hC] at hlen
  match cs, hlen, xs, hxl with
  | [v0, v1, v2, v3, v4, v5, v6, v7, v8, v9, v10], _, [y0, y1, y2, y3, y4], _ =>
    have f0 : DataW.trod enc Tryd.prog w base (fun _ => true) true n 3 [v0] = some y0 := by simpa [k1] using hf 0 _ rfl
    have f1 : DataW.trod enc Tryd.prog w base (fun _ => true) true n 28 [v1, v2, v3, v4, v5] = some y1 := by simpa [k2] using hf 1 _ rfl
    have f2 : DataW.trod enc Tryd.prog w base (fun _ => true) true n 30 [v6, v7] = some y2 := by simpa [k3] using hf 2 _ rfl
    have f3 : DataW.trod enc Tryd.prog w base (fun _ => true) true n 30 [v8, v9] = some y3 := by simpa [k3] using hf 3 _ rfl
    have f4 : DataW.trod enc Tryd.prog w base (fun _ => true) true n 3 [v10] = some y4 := by simpa [k1] using hf 4 _ rfl
    obtain ⟨i0, e0, _, w0⟩ := DataW.trod_int Tryd.underlying3 f0
    obtain ⟨o, a, b, fr, L, m, y, e1, ha, hb, hL⟩ := op_of f1
    obtain ⟨p1, p2, e2, hp1, hp2⟩ := p_of f2
    obtain ⟨q1, q2, e3, hq1, hq2⟩ := p_of f3
    obtain ⟨i4, e4, _, w4⟩ := DataW.trod_int Tryd.underlying3 f4
    obtain ⟨A, cap, rs, eL, hle, hpt, hrs⟩ := open_ps hL
    simp only [List.cons.injEq, and_true] at e0 e1 e2 e3 e4
    obtain ⟨e11, e12, e13, e14, e15⟩ := e1
    obtain ⟨e21, e22⟩ := e2
    obtain ⟨e31, e32⟩ := e3
    subst e0 e11 e12 e13 e14 e15 e21 e22 e31 e32 e4 eL
    exact ⟨⟨i0, o, a, b, fr, rs, (p1, p2), (q1, q2), i4⟩, ⟨A, cap, rfl, hle, hpt⟩, ⟨ha, hb, int_bounds w4, ⟨hp1, hp2⟩, ⟨hq1, hq2⟩, hrs⟩⟩
end
end Go.Proofs.YtidohbhcjnmmeaaDoor
