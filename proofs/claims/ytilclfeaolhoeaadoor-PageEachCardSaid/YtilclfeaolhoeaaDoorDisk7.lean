/-
  The iterator of a disk's kept writes: kept, and the closure that it hands back.
-/
import Derived.RangeFuncWrites
import Derived.RangeFuncNested
import Derived.RangeFuncBound
import Derived.RangeFuncCalls
import Derived.RangeFuncLeaves
import Derived.Shelf.Abstract
import Derived.Shelf.RegionOpen
import Derived.WalkKit
import Derived.OwnWalkIn
import Derived.TacticsInMore
import Derived.LoopNIn
import Derived.LoopIn
import Derived.Maps.OwnIn
import Derived.Test.YtilclfeaolhoeaaDoorDisk1
namespace Go.Proofs.YtilclfeaolhoeaaDoor
set_option linter.unusedSimpArgs false
set_option linter.unusedVariables false
open Go.RowKit Go.Shelf
attribute [local go_sem] Oper.semAt_some

/-- What the rounds keep: all cells and maps, but those of one block. -/
structure KK (lb : Nat) (w w' : World) : Prop where
  size : w.heap.size ≤ w'.heap.size
  same : ∀ k o, k ≠ lb → w.heap[k]? = some o → (o.isCells = true ∨ o.isWalk = true) → w'.heap[k]? = some o
theorem KK.refl (lb : Nat) (w : World) : KK lb w w := ⟨Nat.le_refl _, fun _ _ _ h _ => h⟩
theorem KK.trans {lb : Nat} {a b c : World} (h : KK lb a b) (k : KK lb b c) : KK lb a c := ⟨Nat.le_trans h.size k.size, fun i o hi ho ht => k.same i o hi (h.same i o hi ho ht) ht⟩
theorem KK.of_grown {lb : Nat} {w w' : World} {row : Option Nat} (hg : w.grownBy w' row) (hr : ∀ r, row = some r → r = lb) : KK lb w w' :=
  ⟨hg.size, fun k o hk ho _ => by
    have hlt : k < w.heap.size := (Array.getElem?_eq_some_iff.1 ho).1
    exact (hg.block k hlt (fun e => hk (hr k e.symm))).trans ho⟩
theorem KK.alloc {lb : Nat} {a w : World} (h : KK lb a w) (o : Obj) : KK lb a (w.alloc o) := h.trans (.of_grown (World.grownBy_alloc w o none) (fun r e => by cases e))
theorem KK.drew {lb : Nat} {a w : World} (h : KK lb a w) : KK lb a w.drew := ⟨h.size, h.same⟩
theorem KK.putObj {lb : Nat} {W : World} {l : Nat} {o : Obj} (o' : Obj) (hl : W.heap[l]? = some o) (h1 : o.isCells = false) (h2 : o.isWalk = false) : KK lb W (W.putObj l o') :=
  ⟨by simp, fun k o2 _ ho ht => by
    have hk : k ≠ l := by
      rintro rfl
      rw [hl] at ho
      injection ho with ho
      subst ho
      rw [h1, h2] at ht
      simp at ht
    exact (World.putObj_heap_other hk).trans ho⟩
theorem Blk.kk {lb g : Nat} {w w' : World} {t : TypeId} {cs : Array Value} (h : Blk w g t cs) (hk : KK lb w w') (hg : g ≠ lb) : Blk w' g t cs := hk.same g _ hg h (.inl rfl)
theorem own_kk {lb : Nat} {w w' : World} {base : Nat} {e : TypeId} {size n : Nat} {v : Value} {xs : List Value} (h : w.ownsRow base e size v n xs) (hk : KK lb w w') (hv : ∀ g, v.ownBlock = some g → g ≠ lb) : w'.ownsRow base e size v n xs := by
  refine ⟨h.1, ?_⟩
  rcases h.2 with h2 | ⟨g, cap, cur, rfl, hg, hh, r⟩
  · exact .inl h2
  · exact .inr ⟨g, cap, cur, rfl, hg, hk.same g _ (hv g rfl) hh (.inl rfl), r⟩
theorem map_kk {H : Type} {P : Program} {k : TypeId} {R : Value → Option (DataW H × List MemPlace)} {b n lb : Nat} {D : DataW H} {w w' : World} (h : w.ownsMap P k R b n D) (hk : KK lb w w') (hb : b ≠ lb) : w'.ownsMap P k R b n D := by
  obtain ⟨es, clock, hh, r⟩ := h
  exact ⟨es, clock, hk.same b _ hb hh (.inr rfl), r⟩
theorem cell_kk {lb : Nat} {w w' : World} {a : Addr} {v : Value} (h : w.cell? a = some v) (hk : KK lb w w') (ha : a.block ≠ lb) : w'.cell? a = some v := by
  unfold World.cell? at h ⊢
  cases ho : w.heap[a.block]? with
  | none => rw [ho] at h; cases h
  | some o =>
    rw [ho] at h
    cases o with
    | cells c t f => rw [hk.same _ _ ha ho (.inl rfl)]; exact h
    | _ => cases h

/-- What the numbers in keep choose of a list. -/
def chosen {β : Type} (keep : List Int) (l : List β) : List β := (l.zipIdx.filter fun x => decide ((x.2 : Int) ∈ keep)).map (·.1)
theorem chosen_nil {β : Type} (keep : List Int) : chosen keep ([] : List β) = [] := rfl
theorem chosen_snoc {β : Type} (keep : List Int) (l : List β) (x : β) : chosen keep (l ++ [x]) = chosen keep l ++ (if (l.length : Int) ∈ keep then [x] else []) := by
  unfold chosen
  rw [List.zipIdx_append, List.filter_append, List.map_append]
  congr 1
  by_cases h : (l.length : Int) ∈ keep <;> simp [List.filter_cons, h]
theorem chosen_map {β γ : Type} (keep : List Int) (f : β → γ) (l : List β) : chosen keep (l.map f) = (chosen keep l).map f := by
  unfold chosen
  rw [List.zipIdx_map, List.filter_map, List.map_map, List.map_map]
  rfl
theorem chosen_length {β : Type} (keep : List Int) (l : List β) : (chosen keep l).length ≤ l.length := by
  unfold chosen
  rw [List.length_map]
  refine Nat.le_trans (List.length_filter_le _ _) ?_
  simp
theorem chosen_take {β : Type} (keep : List Int) (l : List β) (k : Nat) (h : k < l.length) : chosen keep (l.take (k + 1)) = chosen keep (l.take k) ++ (if (k : Int) ∈ keep then [l[k]] else []) := by
  rw [List.take_add_one, List.getElem?_eq_getElem h]
  show chosen keep (l.take k ++ [l[k]]) = _
  rw [chosen_snoc, List.length_take, Nat.min_eq_left (by omega)]

theorem chosen_prefix {β : Type} (keep : List Int) (l : List β) (k : Nat) : chosen keep (l.take k) <+: chosen keep l := by
  have h : ∀ a b : List β, chosen keep a <+: chosen keep (a ++ b) := by
    intro a b
    unfold chosen
    rw [List.zipIdx_append, List.filter_append, List.map_append]
    exact List.prefix_append _ _
  have := h (l.take k) (l.drop k)
  rwa [List.take_append_drop] at this

/-- The set of the numbers in keep, as a map. -/
def seenD (keep : List Int) : DataW Unit := keep.foldl (fun D x => D.put (.int .i64 x) (.lit (.bool true))) (.map [])
theorem seenD_snoc (l : List Int) (x : Int) : seenD (l ++ [x]) = (seenD l).put (.int .i64 x) (.lit (.bool true)) := by simp [seenD]
theorem seenD_at (l : List Int) (i : Int) : (seenD l).atKey (.int .i64 i) (.lit (.bool false)) = .lit (.bool (decide (i ∈ l))) := by
  have hm : ∀ l : List Int, Maps.IsMap (seenD l) := by
    intro l
    unfold seenD
    suffices h : ∀ (D : DataW Unit), Maps.IsMap D → Maps.IsMap (l.foldl (fun D x => D.put (.int .i64 x) (.lit (.bool true))) D) from h _ Maps.isMap_empty
    induction l with
    | nil => exact fun D h => h
    | cons x l ih => exact fun D h => ih _ (h.put _ _)
  suffices h : ∀ l : List Int, (seenD l.reverse).atKey (.int .i64 i) (.lit (.bool false)) = .lit (.bool (decide (i ∈ l))) by
    have := h l.reverse
    rw [List.reverse_reverse] at this
    rw [this]; simp
  intro l
  induction l with
  | nil => rfl
  | cons x l ih =>
    rw [List.reverse_cons, seenD_snoc]
    by_cases h : i = x
    · subst h
      rw [Maps.atKey_put_same (hm _) (show WideAt.IsKeyLit (.int .i64 i) from trivial)]
      simp
    · rw [Maps.atKey_put_other (by intro e; injection e with _ e; exact h e), ih]
      simp [h]

theorem plainElem_bool_is {P : Program} {e : TypeId} (he : P.underlying e = some .bool) {v : Value} {c : Bool} {ps : List MemPlace} (h : plainElem (H := Unit) P e v = some (.lit (.bool c), ps)) : v = .bool c := by
  unfold plainElem at h
  rw [he] at h
  cases v <;> simp at h ⊢
  exact h.1

theorem lookup_seen {w : World} {b n : Nat} {keep : List Int} (h : w.ownsMap (H := Unit) Tryd.prog 3 (plainElem Tryd.prog 4) b n (seenD keep)) (i : Int) (hi : (Lit.int .i64 i).wf = true) :
    (Instr.lookup 70 (.map (some b)) (.int .i64 i) false).run Tryd.prog w = .ok (.bool (decide (i ∈ keep))) w := by
  obtain ⟨v, ps, hrun, hv⟩ := h.lookup (Maps.int_keyed Tryd.underlying3) Tryd.underlying70 (Tryd.zeroValue4 w) (plainElem_bool Tryd.underlying4 false) (Maps.keyOf_int_mk Tryd.underlying3 hi)
  rw [seenD_at] at hv
  obtain rfl := plainElem_bool_is Tryd.underlying4 hv
  exact hrun

end Go.Proofs.YtilclfeaolhoeaaDoor
