/-
  A script that came in, opened to its cells.
-/
import Derived.Test.YtieiopeblleheaaPlaysMem
import Derived.Deep.Slices
import Derived.Deep.Fields
import Derived.ChangeSame
import Derived.SizedLaws
namespace Go.Proofs.Ytieiopeblleheaa
set_option linter.unusedSimpArgs false
set_option linter.unusedVariables false
open Go.ChangeShapes Go.WideShapes Go.Deep Go.RowKit

section
variable {H : Type} {enc : TypeId × Value → H} {w : World} {base : Nat}

theorem weightsAll_in {P : Program} {e : TypeId} : ∀ {l : List (DataW H)} {d : DataW H}, d ∈ l → ∀ n ∈ d.weights P e, n ∈ DataW.weightsAll P e l
  | x :: l, d, hd, n, hn => by
    simp only [DataW.weightsAll, List.mem_append]
    rcases List.mem_cons.1 hd with rfl | hd
    · exact .inl hn
    · exact .inr (weightsAll_in hd n hn)

theorem keep_of {fuel : Nat} {cs : List Value} {x : DataW H × List MemPlace} (h : DataW.trod enc Try.prog w base (fun _ => true) true fuel 22 cs = some x)
    (hz : ∀ n ∈ x.1.weights Try.prog 22, n ≤ reachBytes) :
    ∃ (A : Option Addr) (c : Nat) (zs : List Int), cs = [.slice A zs.length c] ∧ IntsIn w A zs ∧ zs.length * 8 ≤ 140737488351232 := by
  rcases open_ints Try.underlying22 Try.underlying3 (by kernel_rfl) h with ⟨hcs, _⟩ | ⟨a, l, c, zs, hcs, _, hl, hm, hlen, hx, hcell, hwz⟩
  · exact ⟨none, 0, [], hcs, ⟨by simp, by simp⟩, by simp⟩
  · simp only [if_true] at hlen
    have hlz : (zs.take l).length = l := by rw [List.length_take]; omega
    refine ⟨some a, c, zs.take l, by rw [hlz]; exact hcs, intsIn_of (by omega) hcell hwz, ?_⟩
    rw [hlz]
    subst hx
    have h8 : Try.prog.bytesOf 3 = 8 := by kernel_rfl
    have := hz (((lits (H := H) .i64 (zs.take l)).length + (lits (H := H) .i64 (zs.drop l)).length) * 8) (by simp only [DataW.weights, Try.underlying22, h8, List.mem_cons]; first | exact .inl rfl | exact .inl trivial)
    simp only [lits, List.length_map, hlz, reachBytes] at this
    omega

set_option maxRecDepth 100000 in
theorem op_of {fuel : Nat} {cs : List Value} {x : DataW H × List MemPlace} (h : DataW.trod enc Try.prog w base (fun _ => true) true fuel 50 cs = some x)
    (hz : ∀ n ∈ x.1.weights Try.prog 50, n ≤ reachBytes) :
    ∃ o : OpV, cs = [.int .i64 o.kind, .int .i64 o.i, .int .i64 o.n, .bool o.short, .slice o.kA o.keep.length o.kc] ∧ ((Lit.int .i64 o.n).wf = true) ∧ IntsIn w o.kA o.keep ∧ o.keep.length * 8 ≤ 140737488351232 := by
  have hs := Try.underlying50
  obtain ⟨xs, n, _, hx, hlen, hxl, hf⟩ := DataW.trod_struct hs h
  have hC : Try.prog.cellsOf 50 = 5 := by kernel_rfl
  have k3 : Try.prog.cellsOf 3 = 1 := by kernel_rfl
  have k4 : Try.prog.cellsOf 4 = 1 := by kernel_rfl
  have k22 : Try.prog.cellsOf 22 = 1 := by kernel_rfl
  rw [hC] at hlen
  match cs, hlen, xs, hxl with
  | [v0, v1, v2, v3, v4], _, [y0, y1, y2, y3, y4], _ =>
    have f0 : DataW.trod enc Try.prog w base (fun _ => true) true n 3 [v0] = some y0 := by simpa [k3] using hf 0 _ rfl
    have f1 : DataW.trod enc Try.prog w base (fun _ => true) true n 3 [v1] = some y1 := by simpa [k3] using hf 1 _ rfl
    have f2 : DataW.trod enc Try.prog w base (fun _ => true) true n 3 [v2] = some y2 := by simpa [k3] using hf 2 _ rfl
    have f3 : DataW.trod enc Try.prog w base (fun _ => true) true n 4 [v3] = some y3 := by simpa [k4] using hf 3 _ rfl
    have f4 : DataW.trod enc Try.prog w base (fun _ => true) true n 22 [v4] = some y4 := by simpa [k22] using hf 4 _ rfl
    obtain ⟨i0, e0, _, _⟩ := DataW.trod_int Try.underlying3 f0
    obtain ⟨i1, e1, _, _⟩ := DataW.trod_int Try.underlying3 f1
    obtain ⟨i2, e2, _, w2⟩ := DataW.trod_int Try.underlying3 f2
    obtain ⟨b3, e3, _⟩ := DataW.trod_bool Try.underlying4 f3
    subst hx
    obtain ⟨A, c, zs, e4, hI, hr⟩ := keep_of f4 (fun m hm => hz m (by
      simp only [DataW.weights, hs, List.map_cons, List.map_nil]
      exact DataW.weights_mem_each (j := 4) rfl rfl m hm))
    simp only [List.cons.injEq, and_true] at e0 e1 e2 e3 e4
    subst e0 e1 e2 e3 e4
    exact ⟨⟨i0, i1, i2, b3, A, c, zs⟩, rfl, w2, hI, hr⟩

set_option maxRecDepth 100000 in
theorem open_ops {fuel : Nat} {a : Option Addr} {len cap : Nat} {x : DataW H × List MemPlace} (h : DataW.trod enc Try.prog w base (fun _ => true) true fuel 45 [.slice a len cap] = some x)
    (hz : ∀ n ∈ x.1.weights Try.prog 45, n ≤ reachBytes) : ∃ ops : List OpV, ops.length = len ∧ OpsIn w a ops ∧ len ≤ 4000000000000 := by
  have hC : Try.prog.cellsOf 50 = 5 := by kernel_rfl
  have hB : Try.prog.bytesOf 50 = 56 := by kernel_rfl
  rcases open_slice Try.underlying45 h with ⟨hcs, _⟩ | ⟨a', len', cap', m, n, D, Pl, hcs, _, hl, hm, hmm, hx, hi⟩
  · simp only [List.cons.injEq, Value.slice.injEq, and_true] at hcs
    obtain ⟨rfl, rfl, rfl⟩ := hcs
    exact ⟨[], rfl, ⟨by simp, by simp⟩, by omega⟩
  · simp only [List.cons.injEq, Value.slice.injEq, and_true] at hcs
    obtain ⟨rfl, rfl, rfl⟩ := hcs
    simp only [if_true] at hmm
    subst hmm hx
    rw [hC] at hi
    have hD : ∀ i, i < len → ∀ k ∈ (D i).weights Try.prog 50, k ≤ reachBytes := fun i hi' k hk => hz k (by
      simp only [DataW.weights, Try.underlying45, List.mem_cons, List.mem_append]
      exact .inr (.inl (weightsAll_in (List.mem_map.2 ⟨i, List.mem_range.2 hi', rfl⟩) k hk)))
    have key : ∀ i, i < len → ∃ o : OpV, w.cells? base (a'.add (i * 5)) 5 = some [.int .i64 o.kind, .int .i64 o.i, .int .i64 o.n, .bool o.short, .slice o.kA o.keep.length o.kc] ∧ ((Lit.int .i64 o.n).wf = true) ∧ IntsIn w o.kA o.keep ∧ o.keep.length * 8 ≤ 140737488351232 := by
      intro i hi'
      obtain ⟨cs', hc, ht⟩ := hi i (by omega)
      obtain ⟨o, e, r⟩ := op_of ht (hD i hi')
      exact ⟨o, by rw [hc, e], r⟩
    have hn : Nonempty OpV := ⟨⟨0, 0, 0, false, none, 0, []⟩⟩
    have hchoice : ∃ f : Nat → OpV, ∀ i, i < len → w.cells? base (a'.add (i * 5)) 5 = some [.int .i64 (f i).kind, .int .i64 (f i).i, .int .i64 (f i).n, .bool (f i).short, .slice (f i).kA (f i).keep.length (f i).kc] ∧ ((Lit.int .i64 (f i).n).wf = true) ∧ IntsIn w (f i).kA (f i).keep ∧ (f i).keep.length * 8 ≤ 140737488351232 := by
      refine ⟨fun i => if h : i < len then Classical.choose (key i h) else Classical.choice hn, fun i h => ?_⟩
      simp only [dif_pos h]
      exact Classical.choose_spec (key i h)
    obtain ⟨f, hf⟩ := hchoice
    refine ⟨(List.range len).map f, by simp, ⟨fun x hx => ?_, fun h0 => ?_⟩, ?_⟩
    · obtain ⟨i, hi', rfl⟩ := List.mem_map.1 hx
      exact (hf i (List.mem_range.1 hi')).2
    · have h0' : 0 < len := by simpa using h0
      obtain ⟨b, off, spot⟩ := a'
      have hat : ∀ i, i < len → ∀ j v, [Value.int .i64 (f i).kind, .int .i64 (f i).i, .int .i64 (f i).n, .bool (f i).short, .slice (f i).kA (f i).keep.length (f i).kc][j]? = some v → w.cell? (((⟨b, off, spot⟩ : Addr).add (i * 5)).add j) = some v := by
        intro i hi' j v hv
        obtain ⟨_, hcl, hcat⟩ := World.cells?_some (hf i hi').1
        have hj := (List.getElem?_eq_some_iff.1 hv).1
        rw [hcat j (by simpa using hj)]
        exact hv
      have hspot : spot = none := by
        have := hat 0 h0' 0 _ rfl
        simpa [Addr.add] using World.cell?_spot this
      subst hspot
      refine ⟨b, off, rfl, fun j x hx => ?_⟩
      have hj : j < len := by have := (List.getElem?_eq_some_iff.1 hx).1; simpa using this
      have ex : x = f j := by
        rw [List.getElem?_map, List.getElem?_range hj] at hx
        exact (Option.some.inj hx).symm
      subst ex
      have ha : ∀ k, ((⟨b, off, none⟩ : Addr).add (j * 5)).add k = ⟨b, off + j * 5 + k, none⟩ := by
        intro k; rw [add_plain, add_plain]
      have g := hat j hj
      refine ⟨?_, ?_, ?_, ?_, ?_⟩
      · have := g 0 _ rfl; rwa [ha] at this
      · have := g 1 _ rfl; rwa [ha] at this
      · have := g 2 _ rfl; rwa [ha] at this
      · have := g 3 _ rfl; rwa [ha] at this
      · have := g 4 _ rfl; rwa [ha] at this
    · have := hz ((((List.range len).map D).length + ((List.range (m - len)).map fun j => D (len + j)).length) * 56) (by simp only [DataW.weights, Try.underlying45, hB, List.mem_cons]; first | exact .inl rfl | exact .inl trivial)
      simp only [List.length_map, List.length_range, reachBytes] at this
      omega
end
end Go.Proofs.Ytieiopeblleheaa
