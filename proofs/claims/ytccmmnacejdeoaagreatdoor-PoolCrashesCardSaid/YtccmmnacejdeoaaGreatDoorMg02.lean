/-
  Disk1, Pool0, Pool1, PoolMap, Disk3, Disk2, Disk4, in one text.
-/
import Derived.Test.YtccmmnacejdeoaaGreatDoorProg
import Derived.Test.YtccmmnacejdeoaaGreatDoorMg01
import Derived.WalkKit
import Derived.WalkSpells
import Derived.WalkLawsBesides
import Derived.Maps.OwnSet
import Derived.Deep.OwnRows
import Derived.RegionTactic
import Derived.BigRegion
import Derived.Laws.CopyOwn
/-
  What the small calls on a disk do: Sectors, Writes, Waiting, Dead, Fuse, burn, wrong.
-/
namespace Go.Proofs.YtccmmnacejdeoaaGreatDoor
set_option linter.unusedSimpArgs false
set_option linter.unusedVariables false
open Go.RowKit

def DS.burn (S : DS) : DS := if 0 < S.fuse then { S with fuse := S.fuse - 1, dead := decide (S.fuse - 1 = 0) } else S
def DS.set (S : DS) (n : Int) : DS := { S with fuse := max n (-1), dead := S.dead || decide (n = 0) }

section
variable {R : Nat → Prop} {w : World} {p : Nat} {S : DS}

/-- The facts that a walk wants of a disk's own cells. -/
theorem DiskAt.cells {nb lb : Nat} {nv lv : List Value} {wv : Value} {ws : List (Nat × Value)} (h : DiskAt R w p nb lb nv lv wv ws S) :
    w.cell? ⟨p, 0, none⟩ = some (.slice (some ⟨nb, 0, none⟩) S.now.length nv.length) ∧ w.cell? ⟨p, 1, none⟩ = some (.slice (some ⟨lb, 0, none⟩) S.now.length lv.length) ∧
    w.cell? ⟨p, 2, none⟩ = some wv ∧ w.cell? ⟨p, 3, none⟩ = some (.int .i64 S.writes) ∧ w.cell? ⟨p, 4, none⟩ = some (.int .i64 S.fuse) ∧ w.cell? ⟨p, 5, none⟩ = some (.bool S.dead) :=
  ⟨h.blk.cell 0, h.blk.cell 1, h.blk.cell 2, h.blk.cell 3, h.blk.cell 4, h.blk.cell 5⟩

theorem Sectors_any (h : DiskOk R w p S) : Calls Tryz.prog 37 #[.pointer (some ⟨p, 0, none⟩)] w fun e w' => e = .returned (.int .i64 S.now.length) ∧ w = w' := by
  obtain ⟨nb, lb, nv, lv, wv, ws, h⟩ := h
  obtain ⟨h0, h1, h2, h3, h4, h5⟩ := h.cells
  go_enter Tryz.func37, Tryz.ntmps37
  go_wp2
  go_ret
  exact ⟨rfl, rfl⟩
theorem Dead_any (h : DiskOk R w p S) : Calls Tryz.prog 75 #[.pointer (some ⟨p, 0, none⟩)] w fun e w' => e = .returned (.bool S.dead) ∧ w = w' := by
  obtain ⟨nb, lb, nv, lv, wv, ws, h⟩ := h
  obtain ⟨h0, h1, h2, h3, h4, h5⟩ := h.cells
  go_enter Tryz.func75, Tryz.ntmps75
  go_wp2
  go_ret
  exact ⟨rfl, rfl⟩

theorem burn_at {nb lb : Nat} {nv lv : List Value} {wv : Value} {ws : List (Nat × Value)} (h : DiskAt R w p nb lb nv lv wv ws S) :
    Calls Tryz.prog 66 #[.pointer (some ⟨p, 0, none⟩)] w fun e w' => e = .returned (.tuple #[]) ∧ DiskAt R w' p nb lb nv lv wv ws S.burn ∧ Fr (fun k => k = p) w w' := by
  obtain ⟨h0, h1, h2, h3, h4, h5⟩ := h.cells
  have f4 := h.blk.frozen 4
  have f5 := h.blk.frozen 5
  have H := Lib.hid h
  have g0 := h.fuse0
  have g1 := h.fuse1
  clear h
  by_cases hz : 0 < S.fuse
  · go_enter Tryz.func66, Tryz.ntmps66
    go_wp2
    go_end0
    have hf : Fr (fun k => k = p) w ((w.setCell ⟨p, 4, none⟩ (.int .i64 (S.fuse - 1))).setCell ⟨p, 5, none⟩ (.bool (S.fuse - 1 == 0))) := ((Fr.refl (fun k => k = p) w).setCell (p := ⟨p, 4, none⟩) (.inr rfl) _).setCell (p := ⟨p, 5, none⟩) (.inr rfl) _
    refine ⟨rfl, ?_, hf⟩
    have e : S.burn = { S with writes := S.writes, fuse := S.fuse - 1, dead := (S.fuse - 1 == 0) } := by
      unfold DS.burn; rw [if_pos hz]; rfl
    rw [e]
    exact H.out.small_set hf _ _ _ (by omega) (by omega) ((H.out.blk.set_ 4 _).set_ 5 _)
  · go_enter Tryz.func66, Tryz.ntmps66
    go_wp2
    go_end0
    refine ⟨rfl, ?_, Fr.refl _ _⟩
    have e : S.burn = S := by
      unfold DS.burn; rw [if_neg (by omega)]
    rw [e]
    exact H.out

theorem Fuse_anyD (n : Int) (h : DiskOk R w p S) (hn : -9223372036854775808 ≤ n) (hn2 : n ≤ 9223372036854775807) :
    Calls Tryz.prog 16 #[.pointer (some ⟨p, 0, none⟩), .int .i64 n] w fun e w' => e = .returned (.tuple #[]) ∧ DiskOk R w' p (S.set n) ∧ FrD R w w' := by
  obtain ⟨nb, lb, nv, lv, wv, ws, h⟩ := h
  obtain ⟨h0, h1, h2, h3, h4, h5⟩ := h.cells
  have f4 := h.blk.frozen 4
  have f5 := h.blk.frozen 5
  have H := Lib.hid h
  clear h
  have g : max n (-1) = if n ≤ -1 then -1 else n := by omega
  have hD : ∀ D : Bool, D = (S.dead || decide (n = 0)) → ∀ F : Int, F = max n (-1) → -1 ≤ F → F ≤ 9223372036854775807 → ∀ w', w' = (w.setCell ⟨p, 4, none⟩ (.int .i64 F)).setCell ⟨p, 5, none⟩ (.bool D) →
      DiskOk R w' p (S.set n) ∧ FrD R w w' := by
    rintro D hD F hF hF0 hF1 w' rfl
    have hf : Fr (fun k => k = p) w ((w.setCell ⟨p, 4, none⟩ (.int .i64 F)).setCell ⟨p, 5, none⟩ (.bool D)) := ((Fr.refl (fun k => k = p) w).setCell (p := ⟨p, 4, none⟩) (.inr rfl) _).setCell (p := ⟨p, 5, none⟩) (.inr rfl) _
    have e : S.set n = { S with writes := S.writes, fuse := F, dead := D } := by rw [hD, hF]; rfl
    rw [e]
    exact ⟨⟨_, _, _, _, _, _, H.out.small_set hf _ _ _ hF0 hF1 ((H.out.blk.set_ 4 _).set_ 5 _)⟩, hf.mono (fun i _ hi => by subst hi; exact ⟨H.out.rp, not_u8 H.out.blk (by decide)⟩)⟩
  have HD := Lib.hid hD
  clear hD g
  rcases (by omega : n ≤ -1 ∨ n = 0 ∨ 0 < n) with hm | hm | hm
  · have hn0 : (n == 0) = false := by simp; omega
    by_cases hd : S.dead = true
    all_goals
      go_enter Tryz.func16, Tryz.ntmps16
      go_wp2
      all_goals
        go_end0
        exact ⟨rfl, HD.out _ (by simp [hd] <;> omega) _ (by omega) (by omega) (by omega) _ rfl⟩
  · subst hm
    by_cases hd : S.dead = true
    all_goals
      go_enter Tryz.func16, Tryz.ntmps16
      go_wp2
      go_end0
      exact ⟨rfl, HD.out _ (by simp [hd]) _ (by omega) (by omega) (by omega) _ rfl⟩
  · have hn0 : (n == 0) = false := by simp; omega
    by_cases hd : S.dead = true
    all_goals
      go_enter Tryz.func16, Tryz.ntmps16
      go_wp2
      all_goals
        go_end0
        exact ⟨rfl, HD.out _ (by simp [hd] <;> omega) _ (by omega) (by omega) (by omega) _ rfl⟩

theorem Fuse_any (n : Int) (h : DiskOk R w p S) (hn : -9223372036854775808 ≤ n) (hn2 : n ≤ 9223372036854775807) :
    Calls Tryz.prog 16 #[.pointer (some ⟨p, 0, none⟩), .int .i64 n] w fun e w' => e = .returned (.tuple #[]) ∧ DiskOk R w' p (S.set n) ∧ Fr R w w' :=
  (Fuse_anyD n h hn hn2).mono (fun _ _ h => ⟨h.1, h.2.1, FrD.fr h.2.2⟩)

/-- What is wrong with a sector's number, or the disk. -/
def DS.wrong (S : DS) (i : Int) : Int := if i < 0 ∨ (S.now.length : Int) ≤ i then 1 else if S.dead = true then 50 else 0

theorem wrong_any (i : Int) (h : DiskOk R w p S) :
    Calls Tryz.prog 80 #[.pointer (some ⟨p, 0, none⟩), .int .i64 i] w fun e w' => e = .returned (.int .i64 (S.wrong i)) ∧ w = w' := by
  obtain ⟨nb, lb, nv, lv, wv, ws, h⟩ := h
  obtain ⟨h0, h1, h2, h3, h4, h5⟩ := h.cells
  clear h
  unfold DS.wrong
  rcases (by omega : i < 0 ∨ (0 ≤ i ∧ (S.now.length : Int) ≤ i) ∨ (0 ≤ i ∧ i < (S.now.length : Int))) with hi | ⟨hi, hi2⟩ | ⟨hi, hi2⟩
  · rw [if_pos (.inl hi)]
    go_enter Tryz.func80, Tryz.ntmps80
    go_wp2
    go_ret
    exact ⟨rfl, rfl⟩
  · rw [if_pos (.inr hi2)]
    go_enter Tryz.func80, Tryz.ntmps80
    go_wp2
    go_ret
    exact ⟨rfl, rfl⟩
  · rw [if_neg (by omega)]
    by_cases hd : S.dead = true
    all_goals
      simp only [hd, if_true, if_false, Bool.false_eq_true]
      go_enter Tryz.func80, Tryz.ntmps80
      go_wp2
      go_ret
      exact ⟨rfl, rfl⟩

end
end Go.Proofs.YtccmmnacejdeoaaGreatDoor

/-
  pool.New.
-/
namespace Go.Proofs.YtccmmnacejdeoaaGreatDoor
set_option linter.unusedSimpArgs false
set_option linter.unusedVariables false
open Go.RowKit

theorem PNew_good (a b : Addr) (n : Int) (w : World) (h1 : 1 ≤ n) (h2 : n ≤ 64) :
    Calls Tryz.prog 7 #[.pointer (some a), .pointer (some b), .int .i64 n] w fun e w' => e = .returned (.tuple #[.pointer (some ⟨w.heap.size + 1, 0, none⟩), .int .i64 0]) ∧
      w' = (w.alloc (.map #[] 0)).alloc (.cells #[.pointer (some a), .pointer (some b), .int .i64 n, .map (some w.heap.size), .slice none 0 0, .int .i64 0] 69) := by
  have hmm := @run_makeMap Tryz.prog
  have h3 : ¬ n < 1 := by omega
  have h4 : ¬ 64 < n := by omega
  go_enter Tryz.func7, Tryz.ntmps7
  go_wp2
  go_ret2
  exact ⟨rfl, rfl⟩
end Go.Proofs.YtccmmnacejdeoaaGreatDoor

/-
  slices.Index over the pool's round.
-/
namespace Go.Proofs.YtccmmnacejdeoaaGreatDoor
set_option linter.unusedSimpArgs false
set_option linter.unusedVariables false
open Go.RowKit

theorem len_round (w : World) (A : Option Addr) (n c : Nat) : (Builtin.len_ #[55] 3 #[Value.slice A n c]).run Tryz.prog w = .ok (.int .i64 n) w := by go_simp
/-- Numbers in memory. -/
def RoundIn (w : World) (A : Option Addr) (l : List Int) : Prop := 0 < l.length → ∃ g o, A = some ⟨g, o, none⟩ ∧ ∀ (j : Nat) x, l[j]? = some x → w.cell? ⟨g, o + j, none⟩ = some (.int .i64 x)
/-- slices.Index's answer. -/
def idxOf (v : Int) (l : List Int) : Int := match l.findIdx? (fun x => decide (v = x)) with
  | some i => i
  | none => -1
theorem idxOf_no {v : Int} {l : List Int} (h : ∀ x ∈ l, ¬ v = x) : idxOf v l = -1 := by
  unfold idxOf
  rw [List.findIdx?_eq_none_iff.2 (fun x hx => decide_eq_false (h x hx))]
theorem idxOf_at {v : Int} {l : List Int} {k : Nat} (hk : k < l.length) (hv : v = l[k]) (h : ∀ j (hj : j < k), ¬ v = l[j]'(by omega)) : idxOf v l = k := by
  unfold idxOf
  rw [(List.findIdx?_eq_some_iff_getElem (i := k)).2 ⟨hk, decide_eq_true hv, fun j hj => by simp [h j hj]⟩]

set_option maxHeartbeats 1600000 in
theorem Index_any (A : Option Addr) (c N : Nat) (l : List Int) (v : Int) (w : World) (h : RoundIn w A l) (hN : N = l.length) (hl : l.length ≤ 1000) :
    Calls Tryz.prog 52 #[.slice A N c, .int .i64 v] w fun e w' => e = .returned (.int .i64 (idxOf v l)) ∧ w = w' := by
  have qL := len_round
  have H := Lib.hid h
  have HN := Lib.hid hN
  have hN1 : N ≤ 1000 := by omega
  clear h hN hl
  go_enter Tryz.func52, Tryz.ntmps52
  go_wp2
  go_loopw [8] (fun i wr => ∃ k : Nat, k ≤ N ∧ i = .int .i64 k ∧ Hid (∀ j x, j < k → l[j]? = some x → ¬ v = x) ∧ w = wr) (fun i _ => N - (intOf i).toNat)
  case atStart => exact ⟨0, Nat.zero_le _, rfl, (fun j x hj => absurd hj (by omega)), rfl⟩
  case round =>
    obtain ⟨k, hk, rfl, hno, rfl⟩ := hrel
    by_cases hlt : k < N
    · have hkl : k < l.length := by rw [← HN.out]; exact hlt
      obtain ⟨g, o, rfl, hc⟩ := H.out (by omega)
      have c0 := hc k _ (List.getElem?_eq_getElem hkl)
      have hz := cell_lt c0
      dsimp only at hz
      have ki : (k : Int) < (N : Int) := by omega
      have kz : (0 : Int) ≤ (k : Int) := by omega
      obtain ⟨x, hx⟩ : ∃ x, l[k] = x := ⟨_, rfl⟩
      rw [hx] at c0
      have HX := Lib.hid hx
      clear hx hc
      by_cases hv : v = x
      · have HI : Hid (idxOf v l = k) := idxOf_at hkl (by rw [HX.out]; exact hv) (fun j hj => hno.out j _ hj (List.getElem?_eq_getElem _))
        go_wp2
        go_ret
        exact ⟨by rw [HI.out]; rfl, rfl⟩
      · have HNo : Hid (∀ j y, j < k + 1 → l[j]? = some y → ¬ v = y) := fun j y hj hy => by
          by_cases e : j = k
          · subst e
            rw [List.getElem?_eq_getElem hkl, HX.out] at hy
            injection hy with hy
            rw [← hy]; exact hv
          · exact hno.out j y (by omega) hy
        go_wp2
        go_roundw
        case rel => exact ⟨k + 1, by omega, by go_num, HNo, trivial⟩
        case measure => simp [intOf]; omega
    · obtain rfl : k = N := by omega
      have HI : Hid (idxOf v l = -1) := idxOf_no fun x hx => by
        obtain ⟨j, hj, e⟩ := List.getElem_of_mem hx
        exact hno.out j x (by rw [HN.out]; exact hj) (by rw [List.getElem?_eq_getElem hj, e])
      go_wp2
      go_ret
      exact ⟨by rw [HI.out]; rfl, rfl⟩
end Go.Proofs.YtccmmnacejdeoaaGreatDoor

/-
  A map of pointers (the pool's frames): each pointer read as the block that it points to.
-/
namespace Go.Proofs.YtccmmnacejdeoaaGreatDoor
set_option linter.unusedSimpArgs false
set_option linter.unusedVariables false
open Go.RowKit Go.Maps

/-- How a pointer to a frame reads: its block. -/
def frR (v : Value) : Option (DataW Unit × List MemPlace) := match v with
  | .pointer none => some (.lit (.int .i64 (-1)), [])
  | .pointer (some ⟨b, 0, none⟩) => some (.lit (.int .i64 b), [])
  | _ => none
theorem frR_inv {v : Value} {z : DataW Unit × List MemPlace} (h : frR v = some z) : (v = .pointer none ∧ z = (.lit (.int .i64 (-1)), [])) ∨ ∃ b, v = .pointer (some ⟨b, 0, none⟩) ∧ z = (.lit (.int .i64 b), []) := by
  unfold frR at h
  split at h
  · left; exact ⟨rfl, (Option.some.inj h).symm⟩
  · right; exact ⟨_, rfl, (Option.some.inj h).symm⟩
  · cases h
def ptrOf : Option Nat → Value
  | none => .pointer none
  | some b => .pointer (some ⟨b, 0, none⟩)
def litOf : Option Nat → DataW Unit
  | none => .lit (.int .i64 (-1))
  | some b => .lit (.int .i64 b)
theorem frR_of {v : Value} {ps : List MemPlace} {o : Option Nat} (h : frR v = some (litOf o, ps)) : v = ptrOf o := by
  rcases frR_inv h with ⟨rfl, e⟩ | ⟨b, rfl, e⟩
  · cases o with
    | none => rfl
    | some c =>
      simp only [litOf, Prod.mk.injEq, DataW.lit.injEq, Lit.int.injEq, true_and] at e
      omega
  · cases o with
    | none =>
      simp only [litOf, Prod.mk.injEq, DataW.lit.injEq, Lit.int.injEq, true_and] at e
      omega
    | some c =>
      simp only [litOf, Prod.mk.injEq, DataW.lit.injEq, Lit.int.injEq, true_and] at e
      obtain rfl : c = b := by omega
      rfl
/-- A map of numbers to frames in memory, as a function: block B of w. -/
def FrMap (w : World) (P : Program) (k : TypeId) (B n : Nat) (f : Int → Option Nat) : Prop :=
  ∃ D, w.ownsMap P k frR B n D ∧ Maps.size D = n ∧ ∀ x : Int, D.atKey (.int .i64 x) (litOf none) = litOf (f x) ∧ Maps.has D (.int .i64 x) = (f x).isSome
/-- How many there are, told sharply. -/
theorem ownsMap_tight {w : World} {P : Program} {k : TypeId} {b n : Nat} {D : DataW Unit} (h : w.ownsMap P k frR b n D) : w.ownsMap P k frR b (Maps.size D) D := by
  obtain ⟨es, clock, hb, F, hs, rfl⟩ := h
  refine ⟨es, clock, hb, F, ?_, rfl⟩
  simp [Maps.size, length_sorted]
theorem FrMap.empty (w : World) (P : Program) (k : TypeId) : FrMap (w.alloc (.map #[] 0)) P k w.heap.size 0 (fun _ => none) :=
  ⟨_, World.ownsMap_made w P k frR, rfl, fun x => ⟨rfl, rfl⟩⟩
def upd (f : Int → Option Nat) (x : Int) (o : Option Nat) : Int → Option Nat := fun y => if y = x then o else f y
theorem lit_ne {x y : Int} (h : ¬ y = x) : (Lit.int .i64 y) ≠ .int .i64 x := fun e => h (by injection e)
theorem FrMap.put {D : DataW Unit} {f : Int → Option Nat} (hD : Maps.IsMap D) (h : ∀ x : Int, D.atKey (.int .i64 x) (litOf none) = litOf (f x) ∧ Maps.has D (.int .i64 x) = (f x).isSome) (x : Int) (hk : WideAt.IsKeyLit (.int .i64 x)) (b : Nat) (y : Int) :
    (D.put (.int .i64 x) (litOf (some b))).atKey (.int .i64 y) (litOf none) = litOf (upd f x (some b) y) ∧ Maps.has (D.put (.int .i64 x) (litOf (some b))) (.int .i64 y) = (upd f x (some b) y).isSome := by
  unfold upd
  by_cases hy : y = x
  · subst hy
    rw [if_pos rfl]
    exact ⟨Maps.atKey_put_same hD hk _ _, Maps.has_put_same hD hk _⟩
  · rw [if_neg hy, Maps.atKey_put_other (lit_ne hy), Maps.has_put_other (lit_ne hy)]
    exact h y
theorem FrMap.del {D : DataW Unit} {f : Int → Option Nat} (h : ∀ x : Int, D.atKey (.int .i64 x) (litOf none) = litOf (f x) ∧ Maps.has D (.int .i64 x) = (f x).isSome) (x y : Int) :
    (D.del (.int .i64 x)).atKey (.int .i64 y) (litOf none) = litOf (upd f x none y) ∧ Maps.has (D.del (.int .i64 x)) (.int .i64 y) = (upd f x none y).isSome := by
  unfold upd
  by_cases hy : y = x
  · subst hy
    rw [if_pos rfl]
    exact ⟨Maps.atKey_del_same _, Maps.has_del_same⟩
  · rw [if_neg hy, Maps.atKey_del_other (lit_ne hy), Maps.has_del_other (lit_ne hy)]
    exact h y

theorem FrMap.fr {w w' : World} {P : Program} {k : TypeId} {B n : Nat} {f : Int → Option Nat} {F : Nat → Prop} (h : FrMap w P k B n f) (hf : Fr F w w') (hB : ¬ F B) : FrMap w' P k B n f := by
  obtain ⟨D, hD, h2⟩ := h
  have hlt := hD.lt
  obtain ⟨es, clock, hb, r⟩ := hD
  exact ⟨D, ⟨es, clock, by rw [hf.block B hlt hB]; exact hb, r⟩, h2⟩
theorem FrMap.lt {w : World} {P : Program} {k : TypeId} {B n : Nat} {f : Int → Option Nat} (h : FrMap w P k B n f) : B < w.heap.size := by
  obtain ⟨D, hD, _⟩ := h
  exact hD.lt

/-! ### at the operation -/
section
variable {P : Program} (w : World) {ops : Array Oper} {rest : List Oper} {o : Oper} {a : Act} {Q : Exit → Act → World → Prop}
/-- v, ok := held[x] -/
theorem wpList_fr_look (hg : o.guard = none) (m x : Operand) (t : TypeId) (hop : o.op = Op.lookup t m x true)
    (k e : TypeId) (K : Keyed P k) (ht : P.underlying t = some (.map k e)) (hz : (zeroValue e).run P w = .ok (.pointer none) w) (B n : Nat) (f : Int → Option Nat)
    (hm : a.eval m = .map (some B)) (hown : FrMap w P k B n f) (y : Int) (hx : a.eval x = .int .i64 y) (hkey : keyOf P k (.int .i64 y) = some (.int .i64 y))
    (hK : wpList P ops Q rest (a.put o.dst (.tuple #[ptrOf (f y), .bool (f y).isSome])) w) :
    wpList P ops Q (o :: rest) a w := by
  obtain ⟨D, hD, hsz, hf⟩ := hown
  refine wpList_lookup_own_ok w hg m x t hop k e K ht frR hz (litOf none) [] rfl B n D hm hD _ _ hx hkey fun v ps hv => ?_
  rw [(hf y).1] at hv
  obtain rfl := frR_of hv
  rw [(hf y).2]
  exact hK
/-- held[x], without ok -/
theorem wpList_fr_get (hg : o.guard = none) (m x : Operand) (t : TypeId) (hop : o.op = Op.lookup t m x false)
    (k e : TypeId) (K : Keyed P k) (ht : P.underlying t = some (.map k e)) (hz : (zeroValue e).run P w = .ok (.pointer none) w) (B n : Nat) (f : Int → Option Nat)
    (hm : a.eval m = .map (some B)) (hown : FrMap w P k B n f) (y : Int) (hx : a.eval x = .int .i64 y) (hkey : keyOf P k (.int .i64 y) = some (.int .i64 y))
    (hK : wpList P ops Q rest (a.put o.dst (ptrOf (f y))) w) :
    wpList P ops Q (o :: rest) a w := by
  obtain ⟨D, hD, hsz, hf⟩ := hown
  refine wpList_plain hg fun K' hK' => ?_
  obtain ⟨v, ps, hrun, hat⟩ := hD.lookup K ht hz (zd := litOf none) (zp := []) rfl hkey
  rw [(hf y).1] at hat
  obtain rfl := frR_of hat
  unfold Oper.wp
  simp [execOp, hop, hm, hx, hrun, Result.andThen]
  exact hK' _ _ hK
/-- held[x] = p -/
theorem FrMap.putM {w w' : World} {k : TypeId} {B n : Nat} {f : Int → Option Nat} {D : DataW Unit} (K : Keyed P k) (hD : w.ownsMap P k frR B n D) (hsz : Maps.size D = n) (hf : ∀ x : Int, D.atKey (.int .i64 x) (litOf none) = litOf (f x) ∧ Maps.has D (.int .i64 x) = (f x).isSome) (y : Int) (hkl : WideAt.IsKeyLit (.int .i64 y)) (b : Nat) (hfy : f y = none)
    (h1 : w'.ownsMap P k frR B (n + 1) (D.put (.int .i64 y) (litOf (some b)))) : FrMap w' P k B (n + 1) (upd f y (some b)) := by
  refine ⟨_, h1, ?_, fun z => FrMap.put hD.isMap hf y hkl b z⟩
  rw [Maps.size_put (hD.tidy K), (hf y).2, hfy, hsz]; rfl
theorem FrMap.delM {w w' : World} {k : TypeId} {B n : Nat} {f : Int → Option Nat} {D : DataW Unit} (K : Keyed P k) (hD : w.ownsMap P k frR B n D) (hsz : Maps.size D = n) (hf : ∀ x : Int, D.atKey (.int .i64 x) (litOf none) = litOf (f x) ∧ Maps.has D (.int .i64 x) = (f x).isSome) (y : Int) {b : Nat} (hfy : f y = some b)
    (h1 : w'.ownsMap P k frR B n (D.del (.int .i64 y))) : FrMap w' P k B (n - 1) (upd f y none) := by
  have e : Maps.size (D.del (.int .i64 y)) = n - 1 := by
    have := Maps.size_del (k := .int .i64 y) (hD.tidy K)
    rw [(hf y).2, hfy, hsz] at this
    simp at this
    omega
  have := ownsMap_tight h1
  rw [e] at this
  exact ⟨_, this, e, fun z => FrMap.del hf y z⟩
/-- delete(held, x) -/
theorem wpList_fr_del (hg : o.guard = none) (m x : Operand) (t k : TypeId) (hop : o.op = Op.call { callee := Callee.builtin Builtin.delete, args := #[m, x], argTypes := #[t, k] })
    (e : TypeId) (K : Keyed P k) (ht : P.underlying t = some (.map k e)) (B n : Nat) (f : Int → Option Nat)
    (hm : a.eval m = .map (some B)) (hown : FrMap w P k B n f) (y : Int) (hx : a.eval x = .int .i64 y) (hkey : keyOf P k (.int .i64 y) = some (.int .i64 y)) {b : Nat} (hfy : f y = some b)
    (hK : ∀ w', FrMap w' P k B (n - 1) (upd f y none) → w.mapTurned w' B → wpList P ops Q rest (a.put o.dst (.tuple #[])) w') :
    wpList P ops Q (o :: rest) a w := by
  obtain ⟨D, hD, hsz, hf⟩ := hown
  refine wpList_delete_own w hg m x t k hop e K ht frR B n D hm hD _ _ hx hkey fun w' h1 h2 => ?_
  exact hK w' (FrMap.delM K hD hsz hf y hfy h1) h2
end
end Go.Proofs.YtccmmnacejdeoaaGreatDoor

/-
  What New makes.
-/
namespace Go.Proofs.YtccmmnacejdeoaaGreatDoor
set_option linter.unusedSimpArgs false
set_option linter.unusedVariables false
open Go.RowKit

theorem info_bytes : (Tryz.prog.info? 38).map (fun i => (i.zero, i.size, i.bytes)) = some (some (.slice none 0 0), 1, 24) := by kernel_rfl

def DS.new (n : Nat) : DS := { now := List.replicate n nought, last := List.replicate n nought, waits := [], writes := 0, fuse := -1, dead := false }


theorem secs_replicate (R : Nat → Prop) (w : World) (n : Nat) : Secs R w (List.replicate n (.slice none 0 0)) (List.replicate n nought) := by
  refine ⟨by simp, fun i v s hv hs => ?_⟩
  rw [List.getElem?_replicate] at hv hs
  split at hv
  · injection hv with hv
    rw [if_pos (by assumption)] at hs
    injection hs with hs
    subst hv hs
    exact ⟨by simp [nought], .inl ⟨rfl, rfl⟩⟩
  · cases hv


theorem new_shape (n : Nat) (w : World) (h1 : 8 ≤ n) (h2 : n ≤ 65536) (nb lb : Nat) (h : nb = w.heap.size ∧ lb = w.heap.size + 1 ∨ nb = w.heap.size + 1 ∧ lb = w.heap.size) (w' : World)
    (hw : w' = (((w.alloc (.cells (madeCells #[.slice none 0 0] n) 38)).alloc (.cells (madeCells #[.slice none 0 0] n) 38)).alloc (.cells #[.slice (some ⟨nb, 0, none⟩) n n, .slice (some ⟨lb, 0, none⟩) n n, .slice none 0 0, .int .i64 0, .int .i64 (-1), .bool false] 98)).drew) :
    w.heap.size ≤ w.heap.size + 1 + 1 ∧ DiskOk (fun b => w.heap.size ≤ b ∧ b < w'.heap.size) w' (w.heap.size + 1 + 1) (DS.new n) ∧ Fr Nob w w' := by
  have hz : w'.heap.size = w.heap.size + 3 := by subst hw; simp
  have b0 : Blk w' w.heap.size 38 (List.replicate n (.slice none 0 0)).toArray := by
    subst hw; rw [← madeCells_toArray]; exact (((Blk.new w _ _).alloc _).alloc _).drew
  have b1 : Blk w' (w.heap.size + 1) 38 (List.replicate n (.slice none 0 0)).toArray := by
    subst hw; rw [← madeCells_toArray]
    have := Blk.new (w.alloc (.cells (madeCells #[.slice none 0 0] n) 38)) 38 (madeCells #[.slice none 0 0] n)
    rw [World.size_alloc] at this
    exact (this.alloc _).drew
  have b2 : Blk w' (w.heap.size + 1 + 1) 98 #[.slice (some ⟨nb, 0, none⟩) n n, .slice (some ⟨lb, 0, none⟩) n n, .slice none 0 0, .int .i64 0, .int .i64 (-1), .bool false] := by
    subst hw
    have := Blk.new ((w.alloc (.cells (madeCells #[.slice none 0 0] n) 38)).alloc (.cells (madeCells #[.slice none 0 0] n) 38)) 98 #[.slice (some ⟨nb, 0, none⟩) n n, .slice (some ⟨lb, 0, none⟩) n n, .slice none 0 0, .int .i64 0, .int .i64 (-1), .bool false]
    rw [World.size_alloc, World.size_alloc] at this
    exact this.drew
  refine ⟨by omega, ⟨nb, lb, List.replicate n (.slice none 0 0), List.replicate n (.slice none 0 0), .slice none 0 0, [], ?_⟩, ?_⟩
  · exact { blk := by simpa [DS.new] using b2
            bnow := by rcases h with ⟨rfl, rfl⟩ | ⟨rfl, rfl⟩ <;> assumption
            blast := by rcases h with ⟨rfl, rfl⟩ | ⟨rfl, rfl⟩ <;> assumption
            ne := by omega
            own := World.ownsRow_nil _ _ _ _
            rp := by omega
            rn := by omega
            rl := by omega
            rw := by simp [Value.ownBlock]
            lt := fun b hb => hb.2
            llen := by simp [DS.new]
            pos := by simp [DS.new]; omega
            small := by simpa [DS.new] using h2
            now := secs_replicate _ _ _
            last := secs_replicate _ _ _
            waits := ⟨rfl, fun i x y hx => by simp at hx⟩
            fuse0 := by simp [DS.new]
            fuse1 := by simp [DS.new] }
  · subst hw
    exact ((((Fr.refl _ w).alloc _).alloc _).alloc _).drew

set_option maxHeartbeats 400000 in
theorem New_good (n : Nat) (w : World) (h1 : 8 ≤ n) (h2 : n ≤ 65536) :
    Calls Tryz.prog 22 #[.int .i64 n] w fun e w' => ∃ p, e = .returned (.tuple #[.pointer (some ⟨p, 0, none⟩), .int .i64 0]) ∧ w.heap.size ≤ p ∧ DiskOk (fun b => w.heap.size ≤ b ∧ b < w'.heap.size) w' p (DS.new n) ∧ Fr Nob w w' := by
  have hmk := run_make_row' (P := Tryz.prog) 95 38 (.slice none 0 0) 24 Tryz.underlying95 info_bytes rfl .i64 .i64 n (by omega) (by omega)
  go_enter Tryz.func22, Tryz.ntmps22
  go_wp2
  go_region
  · go_wp2
    go_ret2
    exact ⟨_, rfl, new_shape n w h1 h2 _ _ (.inl ⟨rfl, rfl⟩) _ rfl⟩
  · go_wp2
    go_ret2
    exact ⟨_, rfl, new_shape n w h1 h2 _ _ (.inr ⟨rfl, rfl⟩) _ rfl⟩
end Go.Proofs.YtccmmnacejdeoaaGreatDoor

/-
  What New, Clone of a row of bytes, Write and Read do.
-/
namespace Go.Proofs.YtccmmnacejdeoaaGreatDoor
set_option linter.unusedSimpArgs false
set_option linter.unusedVariables false
open Go.RowKit

theorem info_u8 : (Tryz.prog.info? 5).map (fun i => (i.zero, i.size, i.bytes)) = some (some (.int .u8 0), 1, 1) := by kernel_rfl

set_option maxHeartbeats 400000 in
set_option maxRecDepth 100000 in
theorem clone_bytes_any (a : Addr) (n c : Nat) (s : List UInt8) (w : World) (hs : s.length = n) (hc : ∀ j u, (bts s)[j]? = some u → w.cell? (a.add j) = some u) (hb : a.block < w.heap.size) (hn : n ≤ 140737488351232) :
    Calls Tryz.prog 91 #[.slice (some a) n c] w fun e w' => ∃ v', e = .returned v' ∧ w'.ownsRow w.heap.size 5 1 v' n (bts s) ∧ v' ≠ .slice none 0 0 ∧ Fr Nob w w' := by
  obtain ⟨i0, hi, hz0, hz1, hz2⟩ := info_parts info_u8
  have Hc := Lib.hid hc
  have Hs := Lib.hid hs
  clear hc hs
  have c1 : Hid ((bts s).length = n * 1) := by rw [bts_length, Hs.out]; show n = n * 1; omega
  have c2 : Hid (∀ j u, (bts s)[j]? = some u → (w.alloc (.cells #[] 5)).cell? (a.add j) = some u) := by
    intro j u hu; rw [World.cell?_alloc_lt _ _ _ (by unfold Addr.add; split <;> exact hb)]; exact Hc.out j u hu
  have c3 : Hid (0 + n ≤ maxLen) := by show 0 + n ≤ maxLen; unfold maxLen; omega
  have hnil := fun (w : World) (a : Option Addr) (n c n' c' : Nat) => Lib.run_eql_slice_nil (P := Tryz.prog) w 38 5 a n c n' c' Tryz.underlying38
  go_enter Tryz.func91, Tryz.ntmps91
  go_wp2_with (at_builtin; go_must (refine wpList_append_own_at _ rfl (.tmp 5) (.tmp 6) 38 rfl w.heap.size 5 i0 (.int .u8 0) 1 1 Tryz.underlying38 hi hz0 hz1 hz2 rfl (by decide) (.slice (some ⟨w.heap.size, 0, none⟩) 0 0) 0 [] rfl (World.ownsRow_made w #[] 0 (Nat.le_refl _) (by decide) rfl) a n c (bts s) rfl c1.out c2.out (bts_one s) c3.out (by omega) (by simp) ?_); intro v' w1 hown hg hn0 hat)
  go_ret
  refine ⟨v', rfl, by simpa using hown, by rw [Ne, hn0]; simp, ?_⟩
  exact ((Fr.refl _ _).alloc _).grown hg (fun k hk => .inl (Nat.le_of_eq (by simpa [Value.ownBlock] using hk)))
end Go.Proofs.YtccmmnacejdeoaaGreatDoor

/-
  What Write does.
-/
namespace Go.Proofs.YtccmmnacejdeoaaGreatDoor
set_option linter.unusedSimpArgs false
set_option linter.unusedVariables false
open Go.RowKit

theorem info_write : (Tryz.prog.info? 103).map (fun i => (i.zero, i.size, i.bytes)) = some (some (.agg #[.int .i64 0, .slice none 0 0]), 2, 32) := by kernel_rfl

def DS.wr (S : DS) (i : Nat) (s : List UInt8) : DS := (S.wr0 i s).burn

section
variable {R : Nat → Prop} {w : World} {p : Nat} {S : DS}

theorem Write_bad (i : Int) (A : Option Addr) (m c : Nat) (h : DiskOk R w p S) (hb : i < 0 ∨ (S.now.length : Int) ≤ i ∨ m ≠ 64) :
    Calls Tryz.prog 74 #[.pointer (some ⟨p, 0, none⟩), .int .i64 i, .slice A m c] w fun e w' => e = .returned (.int .i64 1) ∧ w = w' := by
  obtain ⟨nb, lb, nv, lv, wv, ws, h⟩ := h
  obtain ⟨h0, h1, h2, h3, h4, h5⟩ := h.cells
  clear h
  rcases (by omega : i < 0 ∨ (0 ≤ i ∧ (S.now.length : Int) ≤ i) ∨ (0 ≤ i ∧ i < (S.now.length : Int) ∧ m ≠ 64)) with hi | ⟨hi, hi2⟩ | ⟨hi, hi2, hm⟩
  · clear hb
    go_enter Tryz.func74, Tryz.ntmps74
    go_wp2
    go_ret
    exact ⟨rfl, rfl⟩
  · clear hb
    go_enter Tryz.func74, Tryz.ntmps74
    go_wp2
    go_ret
    exact ⟨rfl, rfl⟩
  · clear hb
    have hm' : ((m : Int) != 64) = true := by simp; omega
    go_enter Tryz.func74, Tryz.ntmps74
    go_wp2
    go_ret
    exact ⟨rfl, rfl⟩

theorem Write_dead (i : Int) (A : Option Addr) (c : Nat) (h : DiskOk R w p S) (hi : 0 ≤ i) (hi2 : i < (S.now.length : Int)) (hd : S.dead = true) :
    Calls Tryz.prog 74 #[.pointer (some ⟨p, 0, none⟩), .int .i64 i, .slice A 64 c] w fun e w' => e = .returned (.int .i64 50) ∧ w = w' := by
  obtain ⟨nb, lb, nv, lv, wv, ws, h⟩ := h
  obtain ⟨h0, h1, h2, h3, h4, h5⟩ := h.cells
  rw [hd] at h5
  clear h hd
  go_enter Tryz.func74, Tryz.ntmps74
  go_wp2
  go_ret
  exact ⟨rfl, rfl⟩

set_option maxHeartbeats 800000 in
set_option maxRecDepth 100000 in
theorem Write_goodD (i : Nat) (a : Addr) (c : Nat) (s : List UInt8) (h : DiskOk R w p S) (hi : i < S.now.length) (hd : S.dead = false) (hs : s.length = 64)
    (hc : ∀ j u, (bts s)[j]? = some u → w.cell? (a.add j) = some u) (ha : a.block < w.heap.size) (hwl : S.waits.length < 4000000000) :
    Calls Tryz.prog 74 #[.pointer (some ⟨p, 0, none⟩), .int .i64 i, .slice (some a) 64 c] w fun e w' => e = .returned (.int .i64 0) ∧ DiskOk (Ext R w w') w' p (S.wr i s) ∧ FrD R w w' := by
  obtain ⟨i0, hi0, hz0, hz1, hz2⟩ := info_parts info_write
  obtain ⟨nb, lb, nv, lv, wv, ws, h⟩ := h
  obtain ⟨h0, h1, h2, h3, h4, h5⟩ := h.cells
  have hin : i < nv.length := Nat.lt_of_lt_of_le hi h.now.1
  rw [hd] at h5
  have H := Lib.hid h
  have Hc := Lib.hid hc
  have Hs := Lib.hid hs
  have hpn : ¬ p = nb := Blk.ne_ h.blk h.bnow (by decide)
  have hnp : ¬ nb = p := fun e => hpn e.symm
  have Hd := Lib.hid hd
  clear h hc hs hd
  go_enter Tryz.func74, Tryz.ntmps74
  go_wp2_with fail
  refine (clone_bytes_any a 64 c s _ Hs.out Hc.out ha (by omega)).mono ?_
  rintro e w1 ⟨v1, rfl, hown, hne, hfr⟩
  obtain ⟨g, cap, rfl, hg, hglt⟩ := hown.form (by omega)
  have H1 := Lib.hid (H.out.fr hfr (fun _ _ hb => hb))
  obtain ⟨h0', h1', h2', h3', h4', h5'⟩ := H1.out.cells
  clear h0 h1 h2 h3 h4 h5
  rw [Hd.out] at h5'
  have fn := H1.out.bnow.frozen i
  have cn : w1.cell? ⟨nb, i, none⟩ = some (nv[i]'hin) := by rw [H1.out.bnow.cell i]; simp
  have hwl' : Hid (ws.length < 4000000000) := by show _ < _; rw [H.out.waits.1]; exact hwl
  clear hwl
  have hownW : Hid (((w1.setCell ⟨nb, i, none⟩ (.slice (some ⟨g, 0, none⟩) 64 cap)).alloc (.cells #[.int .i64 i, .slice (some ⟨g, 0, none⟩) 64 cap] 103)).ownsRow 0 103 2 wv ws.length (waitCells ws)) :=
    (own_set H1.out.own H1.out.bnow (by decide)).alloc _
  have c2 : Hid (∀ j u, [Value.int .i64 i, .slice (some ⟨g, 0, none⟩) 64 cap][j]? = some u → ((w1.setCell ⟨nb, i, none⟩ (.slice (some ⟨g, 0, none⟩) 64 cap)).alloc (.cells #[.int .i64 i, .slice (some ⟨g, 0, none⟩) 64 cap] 103)).cell? ((⟨w1.heap.size, 0, none⟩ : Addr).add j) = some u) := by
    intro j u hu
    have hb := Blk.new (w1.setCell ⟨nb, i, none⟩ (.slice (some ⟨g, 0, none⟩) 64 cap)) 103 #[.int .i64 i, .slice (some ⟨g, 0, none⟩) 64 cap]
    rw [show (w1.setCell ⟨nb, i, none⟩ (.slice (some ⟨g, 0, none⟩) 64 cap)).heap.size = w1.heap.size from by simp [World.setCell]] at hb
    have hj := World.news_of_block hb
    exact hj j u (by simpa using hu)
  have c3 : Hid (ws.length + 1 ≤ maxLen) := by show _ ≤ _; have := hwl'.out; unfold maxLen; omega
  have c4 : Hid ((ws.length + 1) * 32 ≤ 140737488355328) := by show _ ≤ _; have := hwl'.out; omega
  have Hown := Lib.hid hown
  clear hown hne
  go_wp2_with (at_builtin; go_must (refine wpList_append_own_at _ rfl (.tmp 41) (.tmp 45) 96 rfl 0 103 i0 (.agg #[.int .i64 0, .slice none 0 0]) 2 32 Tryz.underlying96 hi0 hz0 hz1 hz2 rfl (by decide) wv ws.length (waitCells ws) rfl hownW.out ⟨w1.heap.size, 0, none⟩ 1 1 [.int .i64 i, .slice (some ⟨g, 0, none⟩) 64 cap] rfl rfl c2.out (by simp [Value.oneCell']) c3.out c4.out (Nat.zero_le _) ?_); intro v' w2 hown' hg2 hn0 hat; obtain ⟨g2, cap2, rfl, hg2lo, hg2lt⟩ := hown'.form (by omega); have HG := Lib.hid hg2; have HO := Lib.hid hown'; have HA := Lib.hid hat; clear hn0 hg2 hown' hat; have hb2 := ((H1.out.blk.far (p := ⟨nb, i, none⟩) hpn (.slice (some ⟨g, 0, none⟩) 64 cap)).alloc (.cells #[.int .i64 i, .slice (some ⟨g, 0, none⟩) 64 cap] 103)).grown HG.out (Blk.own_ne H1.out.blk H1.out.own (by decide)); have k2 : w2.cell? ⟨p, 2, none⟩ = some wv := hb2.cell 2; have k3 : w2.cell? ⟨p, 3, none⟩ = some (.int .i64 S.writes) := hb2.cell 3; have q2 := hb2.frozen 2; have q3 := hb2.frozen 3; clear hb2)
  obtain ⟨hD, hF⟩ := write_shape H1.out w.heap.size g cap i s hi Hs.out (fun b hb => H.out.lt b hb) Hown.out _ HG.out HO.out (by simpa [World.setCell] using HA.out) hfr.size _ rfl
  have HF := Lib.hid hF
  clear hF
  refine (burn_at hD).mono ?_
  clear hD
  rintro e w5 ⟨rfl, hD5, hf5⟩
  have HD5 := Lib.hid hD5
  have Hf5 := Lib.hid hf5
  clear hD5 hf5
  go_wp2
  go_ret
  have hfin : FrD R w w5 := (FrD.step (R := R) hfr (fun _ h => h.elim) HF.out (fun _ _ h => h)).step' Hf5.out (fun b _ e => by subst e; exact ⟨H.out.rp, not_u8 H.out.blk (by decide)⟩)
  have hsz := Hf5.out.size
  refine ⟨rfl, ⟨_, _, _, _, _, _, HD5.out.more (R' := Ext R w w5) ?_ ?_⟩, hfin⟩
  · rintro b (hb | ⟨hb, hb2⟩)
    · exact .inl hb
    · exact .inr ⟨hb, by omega⟩
  · rintro b (hb | hb)
    · have := H.out.lt b hb; have := hfin.fr.size; omega
    · exact hb.2


end
end Go.Proofs.YtccmmnacejdeoaaGreatDoor
