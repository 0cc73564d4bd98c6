/-
  Commands: the table of shapes, its iterator.
-/
import Derived.Test.YtidohbhcjnmmeaaDoorCmd3
import Derived.RangeFuncNested
import Derived.RangeFuncBound
import Derived.RangeFuncCalls
import Derived.RangeFuncLeaves
import Derived.RangeFuncWrites
import Derived.Shelf.Abstract
import Derived.Shelf.RegionOpen
import Derived.OwnWalkIn
import Derived.TacticsInMore
import Derived.LoopNIn
import Derived.LoopIn
namespace Go.Proofs.YtidohbhcjnmmeaaDoor
set_option linter.unusedSimpArgs false
set_option linter.unusedVariables false
open Go.RowKit Go.Shelf
attribute [local go_sem] Oper.semAt_some

/-- The shapes of all words. -/
def tbl : List Shp := [
  ⟨[110, 111, 100, 101], 1, 1, false, 0, 1⟩,
  ⟨[109, 111, 118, 101], 1, 2, false, 1, 1⟩,
  ⟨[114, 101, 109, 110, 111, 100, 101], 1, 3, false, 1, 0⟩,
  ⟨[101, 100, 103, 101], 1, 4, false, 2, 3⟩,
  ⟨[110, 101, 119, 101, 100, 103, 101], 1, 4, true, 2, 3⟩,
  ⟨[114, 101, 109, 101, 100, 103, 101], 1, 5, false, 1, 0⟩,
  ⟨[110, 101, 119, 114, 101, 109], 1, 5, true, 1, 0⟩,
  ⟨[99, 104, 97, 110, 103, 101], 1, 6, false, 1, 3⟩,
  ⟨[115, 112, 108, 105, 116], 1, 7, false, 1, 1⟩,
  ⟨[110, 101, 119, 115, 112, 108, 105, 116], 1, 7, true, 1, 1⟩,
  ⟨[104, 101, 97, 108], 1, 8, false, 2, 0⟩,
  ⟨[110, 101, 119, 104, 101, 97, 108], 1, 8, true, 2, 0⟩,
  ⟨[98, 101, 103, 105, 110], 2, 0, false, 0, 0⟩,
  ⟨[99, 111, 109, 109, 105, 116], 3, 0, false, 0, 0⟩,
  ⟨[97, 98, 111, 114, 116], 4, 0, false, 0, 0⟩,
  ⟨[115, 97, 118, 101], 5, 0, false, 0, 0⟩,
  ⟨[98, 97, 99, 107], 6, 0, false, 1, 0⟩,
  ⟨[97, 116], 7, 0, false, 0, 1⟩,
  ⟨[114, 111, 117, 110, 100], 8, 0, false, 1, 0⟩,
  ⟨[114, 105, 110, 103, 115], 9, 0, false, 1, 0⟩,
  ⟨[119, 105, 110, 100, 111, 119], 10, 0, false, 0, 2⟩,
  ⟨[112, 108, 97, 110], 11, 0, false, 0, 0⟩,
  ⟨[99, 104, 101, 99, 107], 12, 0, false, 0, 0⟩,
  ⟨[99, 111, 117, 110, 116], 13, 0, false, 0, 0⟩]
theorem tbl_length : tbl.length = 24 := rfl
def Shp.cs (x : Shp) : List Value := [.string (tx x.word), .int .i64 x.kind, .int .i64 x.op, .bool x.fresh, .int .i64 x.n, .int .i64 x.p]
def shCells (l : List Shp) : List Value := l.flatMap Shp.cs
theorem shCells_get : ∀ (l : List Shp) (j i : Nat) (x : Shp), l[j]? = some x → i < 6 → (shCells l)[j * 6 + i]? = x.cs[i]?
  | [], j, i, x, h, _ => by simp at h
  | y :: r, 0, i, x, h, hi => by
    simp only [List.getElem?_cons_zero, Option.some.injEq] at h
    subst h
    rw [Nat.zero_mul, Nat.zero_add]
    show (y.cs ++ shCells r)[i]? = _
    rw [List.getElem?_append_left (by show i < 6; omega)]
  | y :: r, j + 1, i, x, h, hi => by
    have ih := shCells_get r j i x (by simpa using h) hi
    show (y.cs ++ shCells r)[(j + 1) * 6 + i]? = _
    rw [List.getElem?_append_right (by show 6 ≤ _; omega), ← ih]
    congr 1
    show (j + 1) * 6 + i - 6 = _
    omega
set_option maxRecDepth 100000 in
theorem tblArr : (#[.string ⟨#[110, 111, 100, 101]⟩, .int .i64 1, .int .i64 1, .bool false, .int .i64 0, .int .i64 1, .string ⟨#[109, 111, 118, 101]⟩, .int .i64 1, .int .i64 2, .bool false, .int .i64 1, .int .i64 1, .string ⟨#[114, 101, 109, 110, 111, 100, 101]⟩, .int .i64 1, .int .i64 3, .bool false, .int .i64 1, .int .i64 0, .string ⟨#[101, 100, 103, 101]⟩, .int .i64 1, .int .i64 4, .bool false, .int .i64 2, .int .i64 3, .string ⟨#[110, 101, 119, 101, 100, 103, 101]⟩, .int .i64 1, .int .i64 4, .bool true, .int .i64 2, .int .i64 3, .string ⟨#[114, 101, 109, 101, 100, 103, 101]⟩, .int .i64 1, .int .i64 5, .bool false, .int .i64 1, .int .i64 0, .string ⟨#[110, 101, 119, 114, 101, 109]⟩, .int .i64 1, .int .i64 5, .bool true, .int .i64 1, .int .i64 0, .string ⟨#[99, 104, 97, 110, 103, 101]⟩, .int .i64 1, .int .i64 6, .bool false, .int .i64 1, .int .i64 3, .string ⟨#[115, 112, 108, 105, 116]⟩, .int .i64 1, .int .i64 7, .bool false, .int .i64 1, .int .i64 1, .string ⟨#[110, 101, 119, 115, 112, 108, 105, 116]⟩, .int .i64 1, .int .i64 7, .bool true, .int .i64 1, .int .i64 1, .string ⟨#[104, 101, 97, 108]⟩, .int .i64 1, .int .i64 8, .bool false, .int .i64 2, .int .i64 0, .string ⟨#[110, 101, 119, 104, 101, 97, 108]⟩, .int .i64 1, .int .i64 8, .bool true, .int .i64 2, .int .i64 0, .string ⟨#[98, 101, 103, 105, 110]⟩, .int .i64 2, .int .i64 0, .bool false, .int .i64 0, .int .i64 0, .string ⟨#[99, 111, 109, 109, 105, 116]⟩, .int .i64 3, .int .i64 0, .bool false, .int .i64 0, .int .i64 0, .string ⟨#[97, 98, 111, 114, 116]⟩, .int .i64 4, .int .i64 0, .bool false, .int .i64 0, .int .i64 0, .string ⟨#[115, 97, 118, 101]⟩, .int .i64 5, .int .i64 0, .bool false, .int .i64 0, .int .i64 0, .string ⟨#[98, 97, 99, 107]⟩, .int .i64 6, .int .i64 0, .bool false, .int .i64 1, .int .i64 0, .string ⟨#[97, 116]⟩, .int .i64 7, .int .i64 0, .bool false, .int .i64 0, .int .i64 1, .string ⟨#[114, 111, 117, 110, 100]⟩, .int .i64 8, .int .i64 0, .bool false, .int .i64 1, .int .i64 0, .string ⟨#[114, 105, 110, 103, 115]⟩, .int .i64 9, .int .i64 0, .bool false, .int .i64 1, .int .i64 0, .string ⟨#[119, 105, 110, 100, 111, 119]⟩, .int .i64 10, .int .i64 0, .bool false, .int .i64 0, .int .i64 2, .string ⟨#[112, 108, 97, 110]⟩, .int .i64 11, .int .i64 0, .bool false, .int .i64 0, .int .i64 0, .string ⟨#[99, 104, 101, 99, 107]⟩, .int .i64 12, .int .i64 0, .bool false, .int .i64 0, .int .i64 0, .string ⟨#[99, 111, 117, 110, 116]⟩, .int .i64 13, .int .i64 0, .bool false, .int .i64 0, .int .i64 0] : Array Value) = (shCells tbl).toArray := by rfl
/-- A row of shapes lies in block b. -/
def ShIn (w : World) (b : Nat) (l : List Shp) : Prop := Blk w b 54 (shCells l).toArray
theorem ShIn.cells {w : World} {b : Nat} {l : List Shp} (h : ShIn w b l) {j : Nat} {x : Shp} (hj : l[j]? = some x) :
    w.cell? ⟨b, j * 6, none⟩ = some (.string (tx x.word)) ∧ w.cell? ⟨b, j * 6 + 1, none⟩ = some (.int .i64 x.kind) ∧ w.cell? ⟨b, j * 6 + 2, none⟩ = some (.int .i64 x.op) ∧ w.cell? ⟨b, j * 6 + 3, none⟩ = some (.bool x.fresh) ∧ w.cell? ⟨b, j * 6 + 4, none⟩ = some (.int .i64 x.n) ∧ w.cell? ⟨b, j * 6 + 5, none⟩ = some (.int .i64 x.p) := by
  have g : ∀ i, i < 6 → w.cell? ⟨b, j * 6 + i, none⟩ = x.cs[i]? := fun i hi => by
    rw [Blk.cell h (j * 6 + i), List.getElem?_toArray]; exact shCells_get l j i x hj hi
  exact ⟨g 0 (by decide), g 1 (by decide), g 2 (by decide), g 3 (by decide), g 4 (by decide), g 5 (by decide)⟩
abbrev ShT : Type := {x : Shp // x ∈ tbl}
abbrev encSh (x : ShT) : Array Value := #[x.1.v]
/-- The table with each shape's place in it. -/
def tblA : List ShT := tbl.attach
theorem tblA_map : tblA.map (·.1) = tbl := List.attach_map_subtype_val tbl
theorem tblA_length : tblA.length = 24 := by rw [tblA, List.length_attach]; rfl
theorem tbl_bounds : ∀ x ∈ tbl, x.n ≤ 2 ∧ x.p ≤ 3 := by decide

set_option maxRecDepth 100000 in
set_option maxHeartbeats 2000000 in
theorem values1_in (F : Fence) (n : Nat) (h7 : F.fn 39) (hro : F.round = none) (hn : 1 ≤ n) (l Bs n₀ b : Nat) (xs : List ShT) (hxl : xs.length ≤ 1000) (hb : b < n₀) (J Jx : List ShT → World → Prop)
    (hY : ∀ pre x W, J pre W → pre.length < xs.length → YieldAt F (n - 1) Tryd.prog l (encSh x) W fun e W' =>
      (e = .returned (.bool true) ∧ J (pre ++ [x]) W' ∧ Below n₀ W W') ∨ (e = .returned (.bool false) ∧ Jx (pre ++ [x]) W'))
    (W : World) (hJ : AbidesFrom W.heap.size J) (hn0 : n₀ ≤ W.heap.size) (hBs : W.cell? ⟨Bs, 0, none⟩ = some (.slice (some ⟨b, 0, none⟩) xs.length xs.length)) (hc : ShIn W b (xs.map (·.1))) (h0 : J [] W) :
    CallsIn F n Tryd.prog 39 #[.func (.yield l) #[] #[], .pointer (some ⟨Bs, 0, none⟩)] W fun e W' => (∃ v, e = .returned v) ∧
      ((∃ ys, ys = xs ∧ J ys W') ∨ (∃ pre, pre <+: xs ∧ Jx pre W')) := by
  obtain ⟨N, hN⟩ : ∃ N, xs.length = N := ⟨_, rfl⟩
  have HNl := Lib.hid hN
  rw [hN] at hY hBs hxl
  clear hN
  refine callsIn_of_wp Tryd.func39 rfl h7 ?_ hro
  simp only [Tryd.ntmps39, List.size_toArray, List.length_cons, List.length_nil, Nat.reduceAdd, Nat.reduceSub, Array.replicate_succ, Array.replicate_zero, List.push_toArray, List.append_toArray, List.nil_append, List.cons_append]
  gi_wp2
  gi_loopw [7] (fun i wr => ∃ k : Nat, k ≤ N ∧ i = .int .i64 k ∧ J (xs.take k) wr ∧ Below n₀ W wr)
    (fun i _ => N - (intOf i).toNat)
  case atStart => exact ⟨0, Nat.zero_le _, rfl, h0, Below.refl _ _⟩
  case round =>
    obtain ⟨k, hk, rfl, hJs, hnx⟩ := hrel
    by_cases hlt : k < N
    · have hkl : k < xs.length := by rw [HNl.out]; exact hlt
      have hcs := ShIn.cells (Blk.below hc hnx hb : ShIn wr b (xs.map (·.1))) (j := k) (x := xs[k].1) (by rw [List.getElem?_map, List.getElem?_eq_getElem hkl]; rfl)
      have htk : xs.take (k + 1) = xs.take k ++ [xs[k]] := (List.take_append_getElem hkl).symm
      obtain ⟨x, hx⟩ : ∃ x, xs[k] = x := ⟨_, rfl⟩
      rw [hx] at hcs htk
      have hbl : b < wr.heap.size := cell_lt hcs.1
      have HTk := Lib.hid htk
      have hJ' : J (xs.take k) (wr.alloc (.cells #[.string (tx x.1.word), .int .i64 x.1.kind, .int .i64 x.1.op, .bool x.1.fresh, .int .i64 x.1.n, .int .i64 x.1.p] 54)) := hJ _ wr _ none hJs (World.grownBy_alloc _ _ _) (fun r e => by cases e)
      obtain ⟨fn, tmps, assign, body, hy, hR⟩ := hY _ x _ hJ' (by rw [List.length_take, HNl.out]; omega)
      have hB' : Below n₀ W (wr.alloc (.cells #[.string (tx x.1.word), .int .i64 x.1.kind, .int .i64 x.1.op, .bool x.1.fresh, .int .i64 x.1.n, .int .i64 x.1.p] 54)) := hnx.alloc (by have := hnx.size; omega) _
      obtain ⟨⟨wd, kd, op, fr, xn, xp⟩, hxm⟩ := x
      dsimp only at hcs hJ' hB' hy hR
      unfold encSh Shp.v at hy
      dsimp only at hy
      obtain ⟨c0, c1, c2, c3, c4, c5⟩ := hcs
      clear htk hx
      gi_wp2
      refine hR.mono ?_
      rintro e W3 (⟨rfl, hJ3, hk3⟩ | ⟨rfl, hJx3⟩)
      · gi_wp2
        go_roundw
        case rel => exact ⟨k + 1, by omega, by simp, by rw [HTk.out]; exact hJ3, hB'.trans hk3⟩
        case measure => simp [intOf]; omega
      · gi_wp2
        refine bodyPost_ret (results_none rfl _ _ _) rfl ?_
        exact ⟨⟨_, rfl⟩, .inr ⟨_, by rw [← HTk.out]; exact List.take_prefix _ _, hJx3⟩⟩
    · obtain rfl : k = N := by omega
      have he : xs.take k = xs := List.take_of_length_le (by rw [HNl.out]; exact Nat.le_refl _)
      rw [he] at hJs
      gi_wp2
      go_end0
      exact ⟨⟨_, rfl⟩, .inl ⟨_, rfl, hJs⟩⟩

/-- What stands behind a call of shapes: the iterator's box, the row. -/
structure ShAt (w w' : World) (Bs b : Nat) : Prop where
  box : w'.cell? ⟨Bs, 0, none⟩ = some (.slice (some ⟨b, 0, none⟩) 24 24)
  row : ShIn w' b tbl
  lb : w.heap.size ≤ b
  bb : b < Bs
  fr : Fr Nob w w'
  sz : Bs < w'.heap.size

theorem values_stops (F : Fence) (n : Nat) (h7 : F.fn 39) (hro : F.round = none) (hn : 1 ≤ n) (Bs b n₀ : Nat) (w : World) (hn0 : n₀ ≤ w.heap.size) (hb : b < n₀) (hBs : Bs < w.heap.size)
    (hc : w.cell? ⟨Bs, 0, none⟩ = some (.slice (some ⟨b, 0, none⟩) 24 24)) (hr : ShIn w b tbl) :
    SeqStopsK F n Tryd.prog 39 #[.pointer (some ⟨Bs, 0, none⟩)] encSh (Below n₀) (fun ys => ys = tblA) (fun pre => pre <+: tblA) 24 w := fun l J Jx W hW hJ _ hY h0 => by
  have hc' := (hW.cell (p := ⟨Bs, 0, none⟩) hBs).trans hc
  refine (values1_in F n h7 hro hn l Bs n₀ b tblA (by rw [tblA_length]; decide) hb J Jx (by rw [tblA_length]; exact hY) W hJ (Nat.le_trans hn0 hW.size) (by rw [tblA_length]; exact hc') (by rw [tblA_map]; exact Blk.below hr hW (by omega)) h0).mono ?_
  rintro e W' ⟨he, ⟨ys, rfl, hj⟩ | ⟨pre, hp, hj⟩⟩
  · exact ⟨he, .inl ⟨_, rfl, hj⟩⟩
  · exact ⟨he, .inr ⟨_, hp, hj⟩⟩

set_option maxRecDepth 100000 in
set_option maxHeartbeats 2000000 in
theorem values_any (a : Option Addr) (len cap : Nat) (w : World) :
    Calls Tryd.prog 28 #[.slice a len cap] w fun e w' => e = .returned (.func (.func 39) #[] #[.pointer (some ⟨w.heap.size, 0, none⟩)]) ∧ w' = w.alloc (.cells #[.slice a len cap] 72) := by
  go_enter Tryd.func28, Tryd.ntmps28
  go_wp2
  go_ret
  exact ⟨rfl, rfl⟩

set_option maxRecDepth 100000 in
set_option maxHeartbeats 4000000 in
theorem shapes_any (w : World) : Calls Tryd.prog 16 #[] w fun e w' => ∃ Bs b, e = .returned (.func (.func 39) #[] #[.pointer (some ⟨Bs, 0, none⟩)]) ∧ ShAt w w' Bs b := by
  have HV := Lib.hid (fun W => values_any (some ⟨w.heap.size, 0, none⟩) 24 24 W)
  go_enter Tryd.func16, Tryd.ntmps16
  go_wp2_with fail
  refine (HV.out _).mono ?_
  rintro e w' ⟨rfl, rfl⟩
  obtain ⟨W1, hW1⟩ : ∃ W1, w.alloc (.cells (shCells tbl).toArray 54) = W1 := ⟨_, rfl⟩
  have hrow : ShIn W1 w.heap.size tbl := by rw [← hW1]; exact Blk.new w _ _
  have hfr : Fr Nob w W1 := by rw [← hW1]; exact (Fr.refl _ _).alloc _
  have hlt : w.heap.size < W1.heap.size := hrow.lt
  have HRow := Lib.hid hrow
  have HFr := Lib.hid hfr
  clear hrow hfr
  rw [tblArr, hW1]
  clear hW1
  go_wp2
  go_ret
  exact ⟨_, _, rfl, (Blk.new W1 _ _).cell 0, HRow.out.alloc _, Nat.le_refl _, hlt, HFr.out.alloc _, by simp⟩
end Go.Proofs.YtidohbhcjnmmeaaDoor
