/-
  Disk7, Disk8, CopyLaw, RoundRegion, Disk9, DiskApi, RowKitX, DiskCalls, DiskCalm, DiskW, Bytes0, in one text.
-/
import Derived.RangeFuncWrites
import Derived.RangeFuncNested
import Derived.RangeFuncBound
import Derived.RangeFuncCalls
import Derived.RangeFuncLeaves
import Derived.Shelf.Abstract
import Derived.Shelf.RegionOpen
import Derived.WalkKit
import Derived.OwnWalkIn
import Derived.TacticsInMore
import Derived.LoopNIn
import Derived.LoopIn
import Derived.Maps.OwnIn
import Derived.Test.YtfapklpcgcgahaaGreatDoorMg02
import Derived.Test.YtfapklpcgcgahaaGreatDoorMg01
import Derived.Laws.CopyOwn
import Derived.OrdersIn
import Derived.OrdersHeld
import Derived.Deep.RegionLaw
import Derived.ProofKit
import Derived.OpenShut
import Derived.ShutString
import Derived.ChangeOld
import Derived.SizedLaws
import Derived.Deep.Grids
import Derived.Test.YtfapklpcgcgahaaGreatDoorProg
import Derived.WalkSpells
import Derived.WalkLawsBesides
import Derived.Laws.BytesArg
import Derived.Shelf.Bytes.SlSmallAll
import Derived.RangeFuncOwn
import Derived.Laws.Entries
/-
  The iterator of a disk's kept writes: kept, and the closure that it hands back.
-/
namespace Go.Proofs.YtfapklpcgcgahaaGreatDoor
set_option linter.unusedSimpArgs false
set_option linter.unusedVariables false
open Go.RowKit Go.Shelf
attribute [local go_sem] Oper.semAt_some

/-- What the rounds keep: all cells and maps, but those of one block. -/
structure KK (lb : Nat) (w w' : World) : Prop where
  size : w.heap.size ≤ w'.heap.size
  same : ∀ k o, k ≠ lb → w.heap[k]? = some o → (o.isCells = true ∨ o.isWalk = true) → w'.heap[k]? = some o
theorem KK.refl (lb : Nat) (w : World) : KK lb w w := ⟨Nat.le_refl _, fun _ _ _ h _ => h⟩
theorem KK.trans {lb : Nat} {a b c : World} (h : KK lb a b) (k : KK lb b c) : KK lb a c := ⟨Nat.le_trans h.size k.size, fun i o hi ho ht => k.same i o hi (h.same i o hi ho ht) ht⟩
theorem KK.of_grown {lb : Nat} {w w' : World} {row : Option Nat} (hg : w.grownBy w' row) (hr : ∀ r, row = some r → r = lb) : KK lb w w' :=
  ⟨hg.size, fun k o hk ho _ => by
    have hlt : k < w.heap.size := (Array.getElem?_eq_some_iff.1 ho).1
    exact (hg.block k hlt (fun e => hk (hr k e.symm))).trans ho⟩
theorem KK.alloc {lb : Nat} {a w : World} (h : KK lb a w) (o : Obj) : KK lb a (w.alloc o) := h.trans (.of_grown (World.grownBy_alloc w o none) (fun r e => by cases e))
theorem KK.drew {lb : Nat} {a w : World} (h : KK lb a w) : KK lb a w.drew := ⟨h.size, h.same⟩
theorem KK.putObj {lb : Nat} {W : World} {l : Nat} {o : Obj} (o' : Obj) (hl : W.heap[l]? = some o) (h1 : o.isCells = false) (h2 : o.isWalk = false) : KK lb W (W.putObj l o') :=
  ⟨by simp, fun k o2 _ ho ht => by
    have hk : k ≠ l := by
      rintro rfl
      rw [hl] at ho
      injection ho with ho
      subst ho
      rw [h1, h2] at ht
      simp at ht
    exact (World.putObj_heap_other hk).trans ho⟩



/-- The set of the numbers in keep, as a map. -/
def seenD (keep : List Int) : DataW Unit := keep.foldl (fun D x => D.put (.int .i64 x) (.lit (.bool true))) (.map [])
theorem seenD_snoc (l : List Int) (x : Int) : seenD (l ++ [x]) = (seenD l).put (.int .i64 x) (.lit (.bool true)) := by simp [seenD]
theorem seenD_at (l : List Int) (i : Int) : (seenD l).atKey (.int .i64 i) (.lit (.bool false)) = .lit (.bool (decide (i ∈ l))) := by
  have hm : ∀ l : List Int, Maps.IsMap (seenD l) := by
    intro l
    unfold seenD
    suffices h : ∀ (D : DataW Unit), Maps.IsMap D → Maps.IsMap (l.foldl (fun D x => D.put (.int .i64 x) (.lit (.bool true))) D) from h _ Maps.isMap_empty
    induction l with
    | nil => exact fun D h => h
    | cons x l ih => exact fun D h => ih _ (h.put _ _)
  suffices h : ∀ l : List Int, (seenD l.reverse).atKey (.int .i64 i) (.lit (.bool false)) = .lit (.bool (decide (i ∈ l))) by
    have := h l.reverse
    rw [List.reverse_reverse] at this
    rw [this]; simp
  intro l
  induction l with
  | nil => rfl
  | cons x l ih =>
    rw [List.reverse_cons, seenD_snoc]
    by_cases h : i = x
    · subst h
      rw [Maps.atKey_put_same (hm _) (show WideAt.IsKeyLit (.int .i64 i) from trivial)]
      simp
    · rw [Maps.atKey_put_other (by intro e; injection e with _ e; exact h e), ih]
      simp [h]

theorem plainElem_bool_is {P : Program} {e : TypeId} (he : P.underlying e = some .bool) {v : Value} {c : Bool} {ps : List MemPlace} (h : plainElem (H := Unit) P e v = some (.lit (.bool c), ps)) : v = .bool c := by
  unfold plainElem at h
  rw [he] at h
  cases v <;> simp at h ⊢
  exact h.1

theorem lookup_seen {w : World} {b n : Nat} {keep : List Int} (h : w.ownsMap (H := Unit) Tryz.prog 3 (plainElem Tryz.prog 4) b n (seenD keep)) (i : Int) (hi : (Lit.int .i64 i).wf = true) :
    (Instr.lookup 178 (.map (some b)) (.int .i64 i) false).run Tryz.prog w = .ok (.bool (decide (i ∈ keep))) w := by
  obtain ⟨v, ps, hrun, hv⟩ := h.lookup (Maps.int_keyed Tryz.underlying3) Tryz.underlying178 (Tryz.zeroValue4 w) (plainElem_bool Tryz.underlying4 false) (Maps.keyOf_int_mk Tryz.underlying3 hi)
  rw [seenD_at] at hv
  obtain rfl := plainElem_bool_is Tryz.underlying4 hv
  exact hrun

end Go.Proofs.YtfapklpcgcgahaaGreatDoor

/-
  The closure that kept hands back, walked: it yields the chosen writes one by one.
-/
namespace Go.Proofs.YtfapklpcgcgahaaGreatDoor
set_option linter.unusedSimpArgs false
set_option linter.unusedVariables false
open Go.RowKit Go.Shelf
attribute [local go_sem] Oper.semAt_some


/-- The ints of a slice that came in, none of them in block lb. -/
def Ints (lb : Nat) (w : World) (A : Option Addr) (keep : List Int) : Prop :=
  (∀ x ∈ keep, (Lit.int .i64 x).wf = true) ∧ (0 < keep.length → ∃ kb ko, A = some ⟨kb, ko, none⟩ ∧ kb ≠ lb ∧ ∀ j x, keep[j]? = some x → w.cell? ⟨kb, ko + j, none⟩ = some (.int .i64 x))
theorem Ints.at_ {lb : Nat} {w : World} {A : Option Addr} {keep : List Int} (h : Ints lb w A keep) (k : Nat) (hk : k < keep.length) : ∃ kb ko, A = some ⟨kb, ko, none⟩ ∧ kb ≠ lb ∧ w.cell? ⟨kb, ko + k, none⟩ = some (.int .i64 keep[k]) := by
  obtain ⟨kb, ko, e, hne, hc⟩ := h.2 (by omega)
  exact ⟨kb, ko, e, hne, hc k _ (List.getElem?_eq_getElem hk)⟩


end Go.Proofs.YtfapklpcgcgahaaGreatDoor

/-
  The builtin copy into a row, with the exact frame: only that row has changed.
-/
namespace Go.Proofs.YtfapklpcgcgahaaGreatDoor
set_option linter.unusedSimpArgs false
set_option linter.unusedVariables false
open Go.RowKit

theorem grown_setRow (w : World) (g : Nat) (cs : Array Value) : w.grownBy (w.setRow g cs) (some g) :=
  ⟨rfl, rfl, rfl, by simp, fun k _ hk => setRow_other w g k cs (fun e => hk (by rw [e]))⟩

theorem wp_copy_exact {P : Program} {o : Oper} {a : Act} {w : World} {K : Act → World → Prop} {Q : Exit → Act → World → Prop} (d s : Operand) (dT sT : TypeId)
    (ho : o.op = .call { callee := .builtin .copy, args := #[d, s], argTypes := #[dT, sT] }) (elem : TypeId) (hu : P.underlying dT = some (.slice elem)) (hsz : (P.info? elem).map (·.size) = some 1)
    (dp sp : Option Addr) (dLen dCap sLen sCap : Nat) (hd : a.eval d = .slice dp dLen dCap) (hs : a.eval s = .slice sp sLen sCap)
    (g off : Nat) (cur : List Value) (t : TypeId) (hg : w.heap[g]? = some (.cells cur.toArray t (0, 0))) (cs : List Value) (hn : cs.length = Nat.min sLen dLen)
    (hpos : 0 < cs.length → dp = some ⟨g, off, none⟩ ∧ ∃ ad, sp = some ad ∧ ∀ j v, cs[j]? = some v → w.cell? (ad.add j) = some v)
    (hfit : off + cs.length ≤ cur.length) (h1 : ∀ v ∈ cs, v.oneCell' = true)
    (h : ∀ w', Hid (w'.heap[g]? = some (.cells (splice cur off cs).toArray t (0, 0))) → w.grownBy w' (some g) → K (a.put o.dst (goInt cs.length)) w') :
    Oper.wp P o a w K Q := by
  by_cases h0 : cs.length = 0
  · obtain rfl : cs = [] := List.eq_nil_of_length_eq_zero h0
    have hrun := run_copy_none (P := P) w dT sT o.type elem dp sp dLen dCap sLen sCap hu hsz (by simpa using hn.symm)
    unfold Oper.wp
    simp [execOp, ho, resolve, invoke, builtin, hd, hs, hrun, Result.andThen]
    exact h w (show _ = _ by simpa [splice] using hg) ⟨rfl, rfl, rfl, Nat.le_refl _, fun _ _ _ => rfl⟩
  · obtain ⟨rfl, ad, rfl, hsrc⟩ := hpos (by omega)
    have hrun := run_copy_row (P := P) w dT sT o.type elem g off dLen dCap ad sLen sCap cur.toArray t cs hu hsz hg hn hsrc (by simpa using hfit) h1
    unfold Oper.wp
    simp [execOp, ho, resolve, invoke, builtin, hd, hs, hrun, Result.andThen]
    exact h _ (show _ = _ by simpa [splice] using setRow_heap w g _ _ t _ hg) (grown_setRow w g _)

theorem wpList_copy_exact {P : Program} {w : World} {ops : Array Oper} {rest : List Oper} {o : Oper} {a : Act} {Q : Exit → Act → World → Prop} (hgd : o.guard = none) (d s : Operand) (dT sT : TypeId)
    (ho : o.op = .call { callee := .builtin .copy, args := #[d, s], argTypes := #[dT, sT] }) (elem : TypeId) (hu : P.underlying dT = some (.slice elem)) (hsz : (P.info? elem).map (·.size) = some 1)
    (dp sp : Option Addr) (dLen dCap sLen sCap : Nat) (hd : a.eval d = .slice dp dLen dCap) (hs : a.eval s = .slice sp sLen sCap)
    (g off : Nat) (cur : List Value) (t : TypeId) (hg : w.heap[g]? = some (.cells cur.toArray t (0, 0))) (cs : List Value) (hn : cs.length = Nat.min sLen dLen)
    (hpos : 0 < cs.length → dp = some ⟨g, off, none⟩ ∧ ∃ ad, sp = some ad ∧ ∀ j v, cs[j]? = some v → w.cell? (ad.add j) = some v)
    (hfit : off + cs.length ≤ cur.length) (h1 : ∀ v ∈ cs, v.oneCell' = true)
    (h : ∀ w', Hid (w'.heap[g]? = some (.cells (splice cur off cs).toArray t (0, 0))) → w.grownBy w' (some g) → wpList P ops Q rest (a.put o.dst (goInt cs.length)) w') :
    wpList P ops Q (o :: rest) a w :=
  wpList_plain hgd fun _ hK => wp_copy_exact d s dT sT ho elem hu hsz dp sp dLen dCap sLen sCap hd hs g off cur t hg cs hn hpos hfit h1 fun w' h2 h3 => hK _ _ (h w' h2 h3)

end Go.Proofs.YtfapklpcgcgahaaGreatDoor

/-
  A region that draws its order, inside a round of a loop over a function: where no operation of it calls, what holds of it plainly holds there.
-/
namespace Go.Proofs.YtfapklpcgcgahaaGreatDoor
set_option linter.unusedSimpArgs false
set_option linter.unusedVariables false







/-- What comes to a normal end needs no word on panics. -/
def OnlyNormal (K : Act → World → Prop) : Exit → Act → World → Prop
  | .normal, a, w => K a w
  | _, _, _ => False
theorem wp_quietly {P : Program} {c : Code} {K : Act → World → Prop} {Q : Exit → Act → World → Prop} {a : Act} {w : World} (h : c.wp P (OnlyNormal K) a w) : c.wp P (Exit.then K Q) a w :=
  wp_mono h (by intro e a w h; cases e <;> first | exact h | exact h.elim)

/-- A call within a region, where nothing else may come up. -/
theorem wpAnyH_call {P : Program} {md : Region.Mode} {ops : Array Oper} {Q : Exit → Act → World → Prop} {S : World → Prop} {i : Nat} {o : Oper} {fuel : Nat} {listed : Array Bool} {a : Act} {w : World} {f : FuncId} {args : Array Value} {R : Ending → World → Prop} (hi : ops[i]? = some o)
    (hr : Region.ready md ops listed = [i]) (hw : Region.wanted o (yielded ops a.tmps) = true) (hrun : (execOp a.eval o).run P w = .ok (.enter f args) w) (hcall : Calls P f args w R)
    (h : ∀ e w', R e w' → ∃ v, e = .returned v ∧ S w' ∧ wpAnyH P md ops Q S fuel (listed.setIfInBounds i true) (a.put o.dst v) w') : wpAnyH P md ops Q S (fuel + 1) listed a w := by
  refine wpAnyH_all hr (by simp) ?_
  intro j hj
  simp only [List.mem_singleton] at hj
  subst hj
  unfold wpOp
  rw [hi]
  dsimp only
  rw [if_pos hw]
  refine .inl ?_
  unfold Oper.wp
  rw [hrun]
  refine hcall.mono ?_
  intro e w' hR
  obtain ⟨v, rfl, hS, h2⟩ := h e w' hR
  exact ⟨hS, h2⟩

/-- The beginning of a region that draws, where it comes to a normal end: what is held of all worlds on the way is S. -/
theorem wp_region_quietly {P : Program} {id : Nat} {ops : Array Oper} {K : Act → World → Prop} {Q : Exit → Act → World → Prop} {a : Act} {w : World} (S : World → Prop) (hm : P.follows .mixedOrders = true)
    (h : wpAnyH P .any ops (OnlyNormal K) S ops.size (Array.replicate ops.size false) a w.drew) : (Code.region id ops true).wp P (Exit.then K Q) a w :=
  wp_quietly (wp_region_held hm h)

/-- An operation taken first, the frame behind it spelled out. -/
theorem wpAnyH_op {P : Program} {md : Region.Mode} {ops : Array Oper} {Q : Exit → Act → World → Prop} {S : World → Prop} {i : Nat} {oi : Oper} (d : Option Tmp) {v : Value} {fuel : Nat} {listed : Array Bool} {a a' : Act} {w : World} (hi : ops[i]? = some oi) (hd : oi.dst = d)
    (hs : Region.noSelect ops = true) (hf : Region.free md ops listed i = true) (hr : (Region.ready md ops listed).contains i = true)
    (hQ : ∀ c a w, Q (.panic c) (a.put oi.dst v) w → Q (.panic c) a w) (hw : Region.wanted oi (yielded ops a.tmps) = true) (hy : ∀ w, S w → (execOp a.eval oi).run P w = .ok (.value v) w) (ha : a.put d v = a') (hS : S w)
    (h : wpAnyH P md ops Q S fuel (listed.setIfInBounds i true) a' w) : wpAnyH P md ops Q S (fuel + 1) listed a w :=
  wpAnyH_take hi hs hf hr hQ (.inl ⟨hw, hy⟩) hS (by rw [hd, ha]; exact h)

theorem wpAnyH_at {P : Program} {md : Region.Mode} {ops : Array Oper} {Q : Exit → Act → World → Prop} {S : World → Prop} {oi : Oper} (d : Option Tmp) {v : Value} {fuel : Nat} {listed : Array Bool} {a a' : Act} {w : World} (hd : oi.dst = d) (ha : a.put d v = a')
    (h : wpAnyH P md ops Q S fuel listed a' w) : wpAnyH P md ops Q S fuel listed (a.put oi.dst v) w := by rw [hd, ha]; exact h


end Go.Proofs.YtfapklpcgcgahaaGreatDoor

/-
  What Crash does.
-/
namespace Go.Proofs.YtfapklpcgcgahaaGreatDoor
set_option linter.unusedSimpArgs false
set_option linter.unusedVariables false
open Go.RowKit Go.Shelf
attribute [local go_sem] Oper.semAt_some


/-- The ints of a slice that came in, none of them in a block of R. -/
def IntsOut (R : Nat → Prop) (w : World) (A : Option Addr) (keep : List Int) : Prop :=
  (∀ x ∈ keep, (Lit.int .i64 x).wf = true) ∧ (0 < keep.length → ∃ kb ko, A = some ⟨kb, ko, none⟩ ∧ ¬ R kb ∧ ∀ j x, keep[j]? = some x → w.cell? ⟨kb, ko + j, none⟩ = some (.int .i64 x))
theorem IntsOut.nil (R : Nat → Prop) (w : World) (A : Option Addr) : IntsOut R w A [] := ⟨by simp, by simp⟩
theorem IntsOut.fr {R R' F : Nat → Prop} {w w' : World} {A : Option Addr} {keep : List Int} (h : IntsOut R w A keep) (hf : Fr F w w') (hd : ∀ b, b < w.heap.size → ¬ R b → ¬ F b ∧ ¬ R' b) : IntsOut R' w' A keep :=
  ⟨h.1, fun h0 => by
    obtain ⟨kb, ko, e, hn, hc⟩ := h.2 h0
    have hlt : kb < w.heap.size := by
      obtain ⟨x, hx⟩ : ∃ x, keep[0]? = some x := ⟨keep[0], List.getElem?_eq_getElem h0⟩
      exact cell_lt (hc 0 x hx)
    exact ⟨kb, ko, e, (hd kb hlt hn).2, fun j x hx => (hf.cell (p := ⟨kb, ko + j, none⟩) hlt (hd kb hlt hn).1).trans (hc j x hx)⟩⟩





section
variable {R : Nat → Prop} {w : World} {p : Nat} {S : DS}


end
end Go.Proofs.YtfapklpcgcgahaaGreatDoor

/-
  The calls on a disk, as their callers meet them: numbers as Go's ints.
-/
namespace Go.Proofs.YtfapklpcgcgahaaGreatDoor
set_option linter.unusedSimpArgs false
set_option linter.unusedVariables false
open Go.RowKit

/-- A row of bytes in a block of its own. -/
def Row64 (w : World) (g : Nat) (s : List UInt8) : Prop := Blk w g 5 (bts s).toArray

section
variable {R : Nat → Prop} {w : World} {p : Nat} {S : DS}




theorem Row64.fr {F : Nat → Prop} {w w' : World} {g : Nat} {s : List UInt8} (h : Row64 w g s) (hf : Fr F w w') (hg : ¬ F g) : Row64 w' g s := Blk.fr h hf hg
theorem Row64.lt {w : World} {g : Nat} {s : List UInt8} (h : Row64 w g s) : g < w.heap.size := Blk.lt h
theorem Row64.conv {w : World} {g : Nat} {s : List UInt8} (h : Row64 w g s) (hs : s.length = 64) :
    (convert 40 9 (.slice (some ⟨g, 0, none⟩) 64 64)).run Tryz.prog w = .ok (.string ⟨s.toArray⟩) w := conv_own (bts_own h hs)
end

theorem DiskOk.len64 {R : Nat → Prop} {w : World} {p : Nat} {S : DS} (h : DiskOk R w p S) {i : Nat} {s : List UInt8} (hs : S.now[i]? = some s) : s.length = 64 := by
  obtain ⟨nb, lb, nv, lv, wv, ws, h⟩ := h
  have hi : i < S.now.length := (List.getElem?_eq_some_iff.1 hs).1
  have hi' : i < nv.length := Nat.lt_of_lt_of_le hi h.now.1
  exact (h.now.2 i nv[i] s (List.getElem?_eq_getElem hi') hs).1

/-! ### what the disk's words come to -/
theorem nought_length : nought.length = 64 := by simp [nought]
end Go.Proofs.YtfapklpcgcgahaaGreatDoor

/-
  The calls on a disk, whatever they are asked: one contract for each.
-/
namespace Go.Proofs.YtfapklpcgcgahaaGreatDoor
set_option linter.unusedSimpArgs false
set_option linter.unusedVariables false
open Go.RowKit

/-- What Write answers, and leaves. -/
def DS.wcode (S : DS) (i : Int) (m : Nat) : Int := if i < 0 ∨ (S.now.length : Int) ≤ i ∨ m ≠ 64 then 1 else if S.dead = true then 50 else 0
def DS.wrote (S : DS) (i : Int) (s : List UInt8) : DS := if S.wcode i s.length = 0 then S.wr i.toNat s else S
def DS.fcode (S : DS) : Int := if S.dead = true then 50 else 0
def DS.flushed (S : DS) : DS := if S.dead = true then S else S.flush

section
variable {R : Nat → Prop} {w : World} {p : Nat} {S : DS}


theorem DiskOk.ext {w' : World} (h : DiskOk R w p S) (hf : w.heap.size ≤ w'.heap.size) (hd : DiskOk R w' p S) : DiskOk (Ext R w w') w' p S := by
  have hl : ∀ b, R b → b < w.heap.size := fun b hb => h.lt hb
  obtain ⟨nb, lb, nv, lv, wv, ws, hd⟩ := hd
  exact ⟨nb, lb, nv, lv, wv, ws, hd.more (fun b hb => .inl hb) (fun b hb => by
    rcases hb with hb | hb
    · have := hl b hb; omega
    · exact hb.2)⟩

theorem Write_any (i : Int) (g m c : Nat) (s : List UInt8) (h : DiskOk R w p S) (hm : s.length = m) (hc : ∀ j u, (bts s)[j]? = some u → w.cell? ((⟨g, 0, none⟩ : Addr).add j) = some u) (hg : g < w.heap.size) (hwl : S.waits.length < 4000000000) :
    Calls Tryz.prog 86 #[.pointer (some ⟨p, 0, none⟩), .int .i64 i, .slice (some ⟨g, 0, none⟩) m c] w fun e w' => e = .returned (.int .i64 (S.wcode i m)) ∧ DiskOk (Ext R w w') w' p (S.wrote i s) ∧ FrD R w w' := by
  subst hm
  have hn : FrD R w w := Fr.refl _ _
  unfold DS.wrote
  unfold DS.wcode
  by_cases h1 : i < 0 ∨ (S.now.length : Int) ≤ i ∨ s.length ≠ 64
  · rw [if_pos h1]
    refine (Write_bad i _ _ c h h1).mono ?_
    rintro e w' ⟨rfl, rfl⟩
    exact ⟨rfl, h.ext (Nat.le_refl _) h, hn⟩
  · rw [if_neg h1]
    have hl : s.length = 64 := by omega
    by_cases h2 : S.dead = true
    · rw [if_pos h2]
      rw [hl]
      refine (Write_dead i _ c h (by omega) (by omega) h2).mono ?_
      rintro e w' ⟨rfl, rfl⟩
      exact ⟨rfl, h.ext (Nat.le_refl _) h, hn⟩
    · rw [if_neg h2]
      obtain ⟨k, rfl⟩ := Int.eq_ofNat_of_zero_le (show 0 ≤ i by omega)
      rw [hl]
      refine (Write_goodD k ⟨g, 0, none⟩ c s h (by omega) (by simpa using h2) hl hc hg hwl).mono ?_
      rintro e w' ⟨rfl, hd, hf⟩
      exact ⟨rfl, by rw [if_pos rfl, Int.toNat_natCast]; exact hd, hf⟩

theorem Flush_any (h : DiskOk R w p S) (hwl : S.waits.length < 4000000000) :
    Calls Tryz.prog 60 #[.pointer (some ⟨p, 0, none⟩)] w fun e w' => e = .returned (.int .i64 S.fcode) ∧ DiskOk R w' p S.flushed ∧ FrD R w w' := by
  unfold DS.fcode DS.flushed
  by_cases h2 : S.dead = true
  · rw [if_pos h2, if_pos h2]
    refine (Flush_dead h h2).mono ?_
    rintro e w' ⟨rfl, rfl⟩
    exact ⟨rfl, h, Fr.refl _ _⟩
  · rw [if_neg h2, if_neg h2]
    exact Flush_goodD h (by simpa using h2) hwl
theorem DiskOk.more {R R' : Nat → Prop} {w : World} {p : Nat} {S : DS} (h : DiskOk R w p S) (hr : ∀ b, R b → R' b) (hl : ∀ b, R' b → b < w.heap.size) : DiskOk R' w p S := by
  obtain ⟨nb, lb, nv, lv, wv, ws, h⟩ := h
  exact ⟨nb, lb, nv, lv, wv, ws, h.more hr hl⟩
end
end Go.Proofs.YtfapklpcgcgahaaGreatDoor

/-
  A disk whose fuse is not lit.
-/
namespace Go.Proofs.YtfapklpcgcgahaaGreatDoor
set_option linter.unusedSimpArgs false
set_option linter.unusedVariables false
open Go.RowKit

theorem DiskOk.small {R : Nat → Prop} {w : World} {p : Nat} {S : DS} (h : DiskOk R w p S) : S.now.length ≤ 65536 := by
  obtain ⟨nb, lb, nv, lv, wv, ws, h⟩ := h
  exact h.small
/-- A disk that nothing threatens: what is read is what lasts with what waits. -/
structure Calm (S : DS) : Prop where
  fuse : S.fuse = -1
  dead : S.dead = false
  sum : setAll S.last S.waits = S.now
theorem Calm.new (n : Nat) : Calm (DS.new n) := ⟨rfl, rfl, rfl⟩
theorem Calm.wr_eq {S : DS} (h : Calm S) (i : Nat) (s : List UInt8) : S.wr i s = S.wr0 i s := by
  unfold DS.wr DS.burn
  rw [if_neg (by show ¬ 0 < S.fuse; rw [h.fuse]; omega)]
theorem Calm.wr {S : DS} (h : Calm S) (i : Nat) (s : List UInt8) : Calm (S.wr i s) := by
  rw [h.wr_eq]
  refine ⟨h.fuse, h.dead, ?_⟩
  show setAll S.last (S.waits ++ [(i, s)]) = S.now.set i s
  rw [setAll_snoc, h.sum]
theorem Calm.wr_now {S : DS} (h : Calm S) (i : Nat) (s : List UInt8) : (S.wr i s).now = S.now.set i s := by
  rw [h.wr_eq]; rfl
theorem Calm.flushed_eq {S : DS} (h : Calm S) : S.flushed = { S with last := S.now, waits := [] } := by
  unfold DS.flushed
  rw [if_neg (by rw [h.dead]; decide)]
  unfold DS.flush DS.burn
  rw [if_neg (by show ¬ 0 < S.fuse; rw [h.fuse]; omega)]
  unfold DS.flush0
  rw [h.sum]
theorem Calm.flushed {S : DS} (h : Calm S) : Calm S.flushed := by
  rw [h.flushed_eq]
  exact ⟨h.fuse, h.dead, rfl⟩
end Go.Proofs.YtfapklpcgcgahaaGreatDoor

/-
  Waiting: what a disk tells of its writes.
-/
namespace Go.Proofs.YtfapklpcgcgahaaGreatDoor
set_option linter.unusedSimpArgs false
set_option linter.unusedVariables false
open Go.RowKit
section
variable {R : Nat → Prop} {w : World} {p : Nat} {S : DS}
theorem Waiting_any (h : DiskOk R w p S) : Calls Tryz.prog 59 #[.pointer (some ⟨p, 0, none⟩)] w fun e w' => e = .returned (.int .i64 S.waits.length) ∧ w = w' := by
  obtain ⟨nb, lb, nv, lv, wv, ws, h⟩ := h
  obtain ⟨h0, h1, h2, h3, h4, h5⟩ := h.cells
  rw [← h.waits.1]
  obtain ⟨A, c, rfl⟩ : ∃ A c, wv = .slice A ws.length c := by
    rcases h.own.2 with ⟨e, e2⟩ | ⟨g, cap, cur, e, _⟩
    · rw [e2]; exact ⟨_, _, e⟩
    · exact ⟨_, _, e⟩
  go_enter Tryz.func59, Tryz.ntmps59
  go_wp2
  go_ret
  exact ⟨rfl, rfl⟩
end
end Go.Proofs.YtfapklpcgcgahaaGreatDoor

/-
  Rows of bytes that can be read.
-/
namespace Go.Proofs.YtfapklpcgcgahaaGreatDoor
set_option linter.unusedSimpArgs false
set_option linter.unusedVariables false
open Go.RowKit

/-- A row of bytes that can be read. -/
def BytesIn (w : World) (A : Option Addr) (l : List UInt8) : Prop := 0 < l.length → ∃ g o, A = some ⟨g, o, none⟩ ∧ ∀ (j : Nat) x, l[j]? = some x → w.cell? ⟨g, o + j, none⟩ = some (.int .u8 x.toNat)
theorem wrap_u64' (x : Int) : IntKind.u64.wrap x = x % 18446744073709551616 := by
  simp [IntKind.wrap, IntKind.signed, IntKind.bits]
theorem bytesIn_of {w : World} {g : Nat} {t : List UInt8} (h : Blk w g 5 (bts t).toArray) : BytesIn w (some ⟨g, 0, none⟩) t := fun _ =>
  ⟨g, 0, rfl, fun j x hx => by rw [Nat.zero_add, h.cell j, List.getElem?_toArray, bts_get, hx]; rfl⟩
theorem bytesIn_part {w : World} {g : Nat} {t : List UInt8} (h : Blk w g 5 (bts t).toArray) (o n : Nat) : BytesIn w (some ⟨g, o, none⟩) ((t.drop o).take n) := fun _ =>
  ⟨g, o, rfl, fun j x hx => by
    rw [List.getElem?_take] at hx
    split at hx
    · rw [List.getElem?_drop] at hx
      rw [h.cell, List.getElem?_toArray, bts_get, hx]; rfl
    · cases hx⟩
theorem BytesIn.fr {F : Nat → Prop} {w w' : World} {A : Option Addr} {l : List UInt8} (h : BytesIn w A l) (hf : Fr F w w') (hA : ∀ a, A = some a → ¬ F a.block) : BytesIn w' A l := fun h0 => by
  obtain ⟨g, o, rfl, hc⟩ := h h0
  exact ⟨g, o, rfl, fun j x hx => (hf.cell (p := ⟨g, o + j, none⟩) (cell_lt (hc j x hx)) (hA ⟨g, o, none⟩ rfl)).trans (hc j x hx)⟩
theorem BytesIn.new {w w' : World} {A : Option Addr} {l : List UInt8} (h : BytesIn w A l) (hf : Fr Nob w w') : BytesIn w' A l := h.fr hf (fun _ _ h => h)
theorem conv_in {w : World} {A : Option Addr} {l : List UInt8} (h : BytesIn w A l) (c : Nat) : (convert 40 9 (.slice A l.length c)).run Tryz.prog w = .ok (.string ⟨l.toArray⟩) w := by
  rcases Nat.eq_zero_or_pos l.length with h0 | h0
  · obtain rfl : l = [] := List.eq_nil_of_length_eq_zero h0
    exact (run_convert_bytes_zero w 40 5 Tryz.underlying40 Tryz.underlying5 A c) 9 Tryz.underlying9
  · obtain ⟨g, o, rfl, hc⟩ := h h0
    refine run_convert_bytes_back (P := Tryz.prog) w 40 9 5 ⟨g, o, none⟩ c l Tryz.underlying40 Tryz.underlying5 Tryz.underlying9 (fun j hj => ?_)
    rw [show (⟨g, o, none⟩ : Addr).add j = ⟨g, o + j, none⟩ from by simp [Addr.add]]
    exact hc j _ (List.getElem?_eq_getElem hj)
theorem bytesIn_cells {w : World} {g o : Nat} {l : List UInt8} (h : BytesIn w (some ⟨g, o, none⟩) l) (j : Nat) (u : Value) (hu : (bts l)[j]? = some u) : w.cell? ((⟨g, o, none⟩ : Addr).add j) = some u := by
  rw [bts_get] at hu
  obtain ⟨x, hx, rfl⟩ := Option.map_eq_some_iff.1 hu
  have hl : 0 < l.length := by have := (List.getElem?_eq_some_iff.1 hx).1; omega
  obtain ⟨g', o', e, hc⟩ := h hl
  injection e with e
  injection e with e1 e2
  subst e1 e2
  rw [show (⟨g, o, none⟩ : Addr).add j = ⟨g, o + j, none⟩ from by simp [Addr.add]]
  exact hc j x hx
/-- Where a cut of a slice at k lies, its capacity c. -/
def cutA (g o k c : Nat) : Addr := if c = k then ⟨g, o, none⟩ else ⟨g, o + k, none⟩
theorem cutA_block (g o k c : Nat) : (cutA g o k c).block = g := by unfold cutA; split <;> rfl
theorem cutA_eq (g o k c : Nat) : (if c = k then some (⟨g, o, none⟩ : Addr) else some ⟨g, o + k, none⟩) = some (cutA g o k c) := by unfold cutA; split <;> rfl
theorem bytesIn_cut {w : World} {g o : Nat} {l : List UInt8} (h : BytesIn w (some ⟨g, o, none⟩) l) (k n c : Nat) (hc : l.length ≤ c) (hn : k + n ≤ l.length) : BytesIn w (some (cutA g o k c)) ((l.drop k).take n) := by
  intro h0
  rw [List.length_take, List.length_drop] at h0
  obtain ⟨g', o', e, hcs⟩ := h (by omega)
  injection e with e
  injection e with e1 e2
  subst e1 e2
  unfold cutA
  rw [if_neg (by omega)]
  refine ⟨g, o + k, rfl, fun j x hx => ?_⟩
  rw [List.getElem?_take] at hx
  split at hx
  · rw [List.getElem?_drop] at hx
    rw [Nat.add_assoc]
    exact hcs _ x hx
  · cases hx
theorem bytesIn_drop {w : World} {g o : Nat} {l : List UInt8} (h : BytesIn w (some ⟨g, o, none⟩) l) (k c : Nat) (hc : l.length ≤ c) (hk : k ≤ l.length) : BytesIn w (some (cutA g o k c)) (l.drop k) := by
  have := bytesIn_cut h k (l.length - k) c hc (by omega)
  rwa [List.take_of_length_le (by rw [List.length_drop]; omega)] at this
theorem bytesIn_own {w : World} {base g n cap : Nat} {l : List UInt8} (h : w.ownsRow base 5 1 (.slice (some ⟨g, 0, none⟩) n cap) n (bts l)) : BytesIn w (some ⟨g, 0, none⟩) l := by
  intro h0
  rcases h.2 with ⟨e, _⟩ | ⟨g', cap', cur, e, _, hh, _, _, _, ht⟩
  · cases e
  · injection e with e _ _
    injection e with e
    injection e with e _
    subst e
    refine ⟨g, 0, rfl, fun j x hx => ?_⟩
    have hb : (bts l)[j]? = some (.int .u8 x.toNat) := by rw [bts_get, hx]; rfl
    rw [← ht, List.getElem?_take] at hb
    split at hb
    · rw [Nat.zero_add, Blk.cell hh j, ← Array.getElem?_toList]; exact hb
    · cases hb
theorem bytesIn_take {w : World} {A : Option Addr} {l : List UInt8} (h : BytesIn w A l) (n : Nat) : BytesIn w A (l.take n) := by
  intro h0
  rw [List.length_take] at h0
  obtain ⟨g, o, e, hc⟩ := h (by omega)
  refine ⟨g, o, e, fun j x hx => ?_⟩
  rw [List.getElem?_take] at hx
  split at hx
  · exact hc j x hx
  · cases hx
theorem bytesIn_lit (w : World) (t : List UInt8) (fz : Nat × Nat) : BytesIn (w.alloc (.cells (bts t).toArray 5 fz)) (some ⟨w.heap.size, 0, none⟩) t := fun _ =>
  ⟨_, 0, rfl, fun j x hx => by
    have hh : (w.alloc (.cells (bts t).toArray 5 fz)).heap[w.heap.size]? = some (.cells (bts t).toArray 5 fz) := by
      show (w.heap.push _)[w.heap.size]? = _
      simp
    rw [Nat.zero_add]
    unfold World.cell?
    rw [hh]
    show (bts t).toArray[j]? = _
    rw [List.getElem?_toArray, bts_get, hx]; rfl⟩
end Go.Proofs.YtfapklpcgcgahaaGreatDoor
