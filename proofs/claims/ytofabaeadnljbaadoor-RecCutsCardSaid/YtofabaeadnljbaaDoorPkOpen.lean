/-
  What came in: a node, a row of bytes.
-/
import Derived.Test.YtofabaeadnljbaaDoorPkRead
import Derived.Test.YtofabaeadnljbaaDoorRowKitX
import Derived.Deep.Slices
import Derived.Deep.Fields
import Derived.ChangeSame
import Derived.SizedLaws
namespace Go.Proofs.YtofabaeadnljbaaDoor
set_option linter.unusedSimpArgs false
set_option linter.unusedVariables false
open Go.ChangeShapes Go.WideShapes Go.Deep Go.RowKit

section
variable {H : Type} {enc : TypeId × Value → H} {w : World} {base : Nat}

set_option maxRecDepth 100000 in
theorem p_of {fuel : Nat} {cs : List Value} {x : DataW H × List MemPlace} (h : DataW.trod enc Tryd.prog w base (fun _ => true) true fuel 23 cs = some x) :
    ∃ a b : Int, cs = [.int .i64 a, .int .i64 b] ∧ (Lit.int .i64 a).wf = true ∧ (Lit.int .i64 b).wf = true := by
  have hs := Tryd.underlying23
  obtain ⟨xs, n, _, hx, hlen, hxl, hf⟩ := DataW.trod_struct hs h
  have hC : Tryd.prog.cellsOf 23 = 2 := by kernel_rfl
  have k2 : Tryd.prog.cellsOf 2 = 1 := by kernel_rfl
  rw [hC] at hlen
  match cs, hlen, xs, hxl with
  | [v0, v1], _, [y0, y1], _ =>
    have f0 : DataW.trod enc Tryd.prog w base (fun _ => true) true n 2 [v0] = some y0 := by simpa [k2] using hf 0 _ rfl
    have f1 : DataW.trod enc Tryd.prog w base (fun _ => true) true n 2 [v1] = some y1 := by simpa [k2] using hf 1 _ rfl
    obtain ⟨i0, e0, _, w0⟩ := DataW.trod_int Tryd.underlying2 f0
    obtain ⟨i1, e1, _, w1⟩ := DataW.trod_int Tryd.underlying2 f1
    simp only [List.cons.injEq, and_true] at e0 e1
    subst e0 e1
    exact ⟨i0, i1, rfl, w0, w1⟩

set_option maxRecDepth 100000 in
theorem node_of {fuel : Nat} {cs : List Value} {x : DataW H × List MemPlace} (h : DataW.trod enc Tryd.prog w base (fun _ => true) true fuel 25 cs = some x) :
    ∃ n : Nd, cs = [.int .i64 n.id, .int .i64 n.x, .int .i64 n.y, .int .i64 n.f] ∧ n.Ok := by
  have hs := Tryd.underlying25
  obtain ⟨xs, n, _, hx, hlen, hxl, hf⟩ := DataW.trod_struct hs h
  have hC : Tryd.prog.cellsOf 25 = 4 := by kernel_rfl
  have k1 : Tryd.prog.cellsOf 3 = 1 := by kernel_rfl
  have k2 : Tryd.prog.cellsOf 23 = 2 := by kernel_rfl
  rw [hC] at hlen
  match cs, hlen, xs, hxl with
  | [v0, v1, v2, v3], _, [y0, y1, y2], _ =>
    have f0 : DataW.trod enc Tryd.prog w base (fun _ => true) true n 3 [v0] = some y0 := by simpa [k1] using hf 0 _ rfl
    have f1 : DataW.trod enc Tryd.prog w base (fun _ => true) true n 23 [v1, v2] = some y1 := by simpa [k2] using hf 1 _ rfl
    have f2 : DataW.trod enc Tryd.prog w base (fun _ => true) true n 3 [v3] = some y2 := by simpa [k1] using hf 2 _ rfl
    obtain ⟨i0, e0, _, w0⟩ := DataW.trod_int Tryd.underlying3 f0
    obtain ⟨a, b, e1, wa, wb⟩ := p_of f1
    obtain ⟨i3, e3, _, w3⟩ := DataW.trod_int Tryd.underlying3 f2
    simp only [List.cons.injEq, and_true] at e0 e1 e3
    obtain ⟨e1, e2⟩ := e1
    subst e0 e1 e2 e3
    have b0 := int_bounds w0
    have b1 := int_bounds wa
    have b2 := int_bounds wb
    have b3 := int_bounds w3
    exact ⟨⟨i0, a, b, i3⟩, rfl, ⟨b0.1, b0.2, b1.1, b1.2, b2.1, b2.2, b3.1, b3.2⟩⟩

theorem u8_bounds {x : Int} (h : (Lit.int .u8 x).wf = true) : 0 ≤ x ∧ x < 256 := by
  have e0 : IntKind.u8.min = 0 := by decide
  have e1 : IntKind.u8.max = 255 := by decide
  simp only [Lit.wf, e0, e1, Bool.and_eq_true, decide_eq_true_eq] at h
  omega
/-- A row of bytes that came in. -/
theorem bytes_of {fuel : Nat} {A : Option Addr} {len cp : Nat} {x : DataW H × List MemPlace} (h : DataW.trod enc Tryd.prog w base (fun _ => true) true fuel 26 [.slice A len cp] = some x) :
    ∃ b : List UInt8, b.length = len ∧ Bs w A cp b ∧ (len ≤ 4000000000 ∨ ∃ B C, x.1 = .slice B C ∧ B.length = len) := by
  rcases open_ints Tryd.underlying26 Tryd.underlying5 (by kernel_rfl) h with ⟨hcs, _⟩ | ⟨a, l, c, zs, hcs, _, hl, hm, hz, hx, hcell, hwz⟩
  · simp only [List.cons.injEq, Value.slice.injEq, and_true] at hcs
    obtain ⟨rfl, rfl, rfl⟩ := hcs
    exact ⟨[], rfl, ⟨fun h => absurd h (by simp), by simp, .inl ⟨rfl, rfl⟩⟩, .inl (by omega)⟩
  · simp only [List.cons.injEq, Value.slice.injEq, and_true] at hcs
    obtain ⟨rfl, rfl, rfl⟩ := hcs
    simp only [if_true] at hz
    have hlz : (zs.take len).length = len := by rw [List.length_take]; omega
    refine ⟨(zs.take len).map fun z => UInt8.ofNat z.toNat, by rw [List.length_map, hlz], ⟨fun h0 => ?_, by rw [List.length_map, hlz]; exact hl, .inr ⟨_, rfl⟩⟩, .inr ⟨_, _, by rw [hx], by simp only [lits, List.length_map]; exact hlz⟩⟩
    rw [List.length_map, hlz] at h0
    obtain ⟨g, o, spot⟩ := a
    have hspot : spot = none := by simpa [Addr.add] using World.cell?_spot (hcell 0 (by omega))
    subst hspot
    refine ⟨g, o, rfl, fun j y hy => ?_⟩
    rw [List.getElem?_map] at hy
    obtain ⟨z, hz1, rfl⟩ := Option.map_eq_some_iff.1 hy
    rw [List.getElem?_take] at hz1
    split at hz1
    · rename_i hj
      have hj2 := (List.getElem?_eq_some_iff.1 hz1).1
      have hc := hcell j hj2
      rw [add_plain] at hc
      have hwf := u8_bounds (hwz z (List.mem_of_getElem? hz1))
      have hgd : zs.getD j 0 = z := by rw [List.getD_eq_getElem?_getD, hz1]; rfl
      rw [hgd] at hc
      rw [hc, ofNat_toNat (by omega)]
      congr 2
      omega
    · cases hz1
end
end Go.Proofs.YtofabaeadnljbaaDoor
