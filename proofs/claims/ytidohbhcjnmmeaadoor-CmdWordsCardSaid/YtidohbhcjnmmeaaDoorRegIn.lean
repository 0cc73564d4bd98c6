/-
  Reg's laws inside a fence that lets every function in: for the functions that yield, and for the rounds of a range over a function.
-/
import Derived.OrdersIn
import Derived.OrdersHeld
import Derived.RangeFuncSeq
import Derived.Test.YtidohbhcjnmmeaaDoorReg
namespace Go.Proofs.YtidohbhcjnmmeaaDoor
set_option linter.unusedSimpArgs false
set_option linter.unusedVariables false

section
variable {F : Fence} {n : Nat} {P : Program} {ops : Array Oper} {Q : Exit → Act → World → Prop} {md : Region.Mode} {S : World → Prop} {z : List Nat}

/-- None of the operations defers. -/
def noDefer (ops : Array Oper) : Bool := ops.toList.all fun o => match o.op with | .defer _ => false | _ => true
theorem noDefer_at {i : Nat} {o : Oper} (h : noDefer ops = true) (hi : ops[i]? = some o) (c : Call) : o.op ≠ .defer c := by
  intro e
  have := List.all_eq_true.1 h o (by rw [Array.mem_toList_iff]; exact Array.mem_of_getElem? hi)
  rw [e] at this
  cases this

/-- What an operation comes to, at two frames that differ in a temporary that it does not look at. -/
theorem upon_moved {o : Oper} {a b : Act} {K K' : Act → World → Prop} (hK : ∀ u w, K (a.put o.dst u) w → K' (b.put o.dst u) w) (hQ : ∀ c w, Q (.panic c) a w → Q (.panic c) b w)
    (hd : ∀ d w, K ({ a with defers := d :: a.defers }.put o.dst undef) w → K' ({ b with defers := d :: b.defers }.put o.dst undef) w) (r : Result Next) (h : o.uponIn F n P a K Q r) : o.uponIn F n P b K' Q r := by
  cases r with
  | ok x w =>
    cases x with
    | value v => exact hK v w h
    | skip => exact hK undef w h
    | defer d => exact hd d w h
    | enter f args => exact ⟨h.1, h.2.mono fun e u he => by cases e with | returned v => exact hK v u he | panicked c => exact hQ c u he | outgrown => exact he⟩
    | row row args => exact ⟨h.1, h.2.mono fun v u he => hK v u he⟩
    | round l f tmps assign body => exact ⟨h.1, h.2.mono fun e u he => by cases e with | returned v => exact hK v u he | panicked c => exact hQ c u he | outgrown => exact he⟩
    | _ => exact h
  | halt x w => cases x <;> first | exact hQ _ w h | exact h

/-- Whatever order is picked from here on; S holds behind every operation but z. -/
def RgI (F : Fence) (n : Nat) (P : Program) (md : Region.Mode) (ops : Array Oper) (Q : Exit → Act → World → Prop) (S : World → Prop) (z : List Nat) : Nat → Array Bool → Act → World → Prop
  | 0, listed, a, w => Region.ready md ops listed = [] ∧ Q .normal a w
  | k + 1, listed, a, w => (Region.ready md ops listed = [] → Q .normal a w) ∧
      ∀ j ∈ Region.ready md ops listed, wpOpIn F n P ops Q j (fun b u => (j ∉ z → S u) ∧ RgI F n P md ops Q S z k (listed.setIfInBounds j true) b u) a w

theorem RgI.any : ∀ (k : Nat) (listed : Array Bool) (a : Act) (w : World), RgI F n P md ops Q S z k listed a w → wpAnyIn F n P md ops Q k listed a w
  | 0, _, _, _, h => h
  | k + 1, _, _, _, h => ⟨h.1, fun j hj => wpOpIn_mono (fun b u hb => RgI.any k _ b u hb.2) (h.2 j hj)⟩

/-- An operation meets another one's value already in its place, and leaves it there. -/
theorem wpOpIn_past {i j : Nat} {oi oj : Oper} {v : Value} {a : Act} {w : World} {K : Act → World → Prop} (hall : ∀ f, F.fn f) (hnd : noDefer ops = true) (hi : ops[i]? = some oi) (hj : ops[j]? = some oj) (hap : oi.apart ops oj = true) (hs : Region.noSelect ops = true)
    (hQ : ∀ c a w, Q (.panic c) (a.put oi.dst v) w → Q (.panic c) a w) (hy : YieldsIf P ops S oi v a) (h : wpOpIn F n P ops Q j K (a.put oi.dst v) w) :
    wpOpIn F n P ops Q j (fun b u => YieldsIf P ops S oi v b ∧ K (b.put oi.dst v) u) a w := by
  obtain ⟨h1, h2, h3⟩ := Oper.apart_spec hap
  have stay : ∀ u, YieldsIf P ops S oi v (a.put oj.dst u) := fun u => hy.of_same (execOp_put oi (fun cs b => Region.noSelect_spec hs i oi cs b hi) a oj.dst u h3) (wanted_put oi a oj.dst u h3)
  unfold wpOpIn at h ⊢
  rw [hj] at h ⊢
  dsimp only at h ⊢
  rw [wanted_put oj a oi.dst v h1] at h
  by_cases hw : Region.wanted oj (yielded ops a.tmps) = true
  · rw [if_pos hw] at h ⊢
    refine ⟨fun f _ => hall f, ?_⟩
    have hr := h.2
    rw [Oper.semAt_eq _ _ _ (noDefer_at hnd hj), execOp_put oj (fun cs b => Region.noSelect_spec hs j oj cs b hj) a oi.dst v h1] at hr
    rw [Oper.semAt_eq _ _ _ (noDefer_at hnd hj)]
    refine upon_moved (fun u w' hk => ⟨stay u, ?_⟩) (fun c w' hq => hQ c a w' hq) (fun d w' hk => ⟨?_, ?_⟩) _ hr
    · rw [← Act.put_comm a v u h2]; exact hk
    · have e : YieldsIf P ops S oi v { a with defers := d :: a.defers } := hy.of_same rfl rfl
      exact e.of_same (execOp_put oi (fun cs b => Region.noSelect_spec hs i oi cs b hi) _ oj.dst undef h3) (wanted_put oi _ oj.dst undef h3)
    · rw [← Act.put_comm _ v undef h2, ← Act.put_defers]; exact hk
  · rw [if_neg hw] at h ⊢
    exact ⟨fun f _ => hall f, stay undef, by rw [← Act.put_comm a v undef h2]; exact h.2⟩

theorem RgI.first {i : Nat} {oi : Oper} {v : Value} (hall : ∀ f, F.fn f) (hnd : noDefer ops = true) (hi : ops[i]? = some oi) (hs : Region.noSelect ops = true) (hQ : ∀ c a w, Q (.panic c) (a.put oi.dst v) w → Q (.panic c) a w)
    (hz : (z.all fun j => j == i || !(poss md i ops.toList 0 []).getD j true) = true) :
    ∀ (k : Nat) (listed : Array Bool) (a : Act) (w : World), closed md ops listed = true →
      (∀ j oj, ops[j]? = some oj → j ≠ i → listed.getD j true = false → (∀ e ∈ oj.after, Region.binds md e = true → e.on ≠ i) → oi.apart ops oj = true) →
      i ∈ Region.ready md ops listed → YieldsIf P ops S oi v a → S w →
      RgI F n P md ops Q S z k (listed.setIfInBounds i true) (a.put oi.dst v) w → RgI F n P md ops Q S z (k + 1) listed a w := by
  have now : ∀ (K : Act → World → Prop) (a : Act) (w : World), YieldsIf P ops S oi v a → S w → K (a.put oi.dst v) w → wpOpIn F n P ops Q i K a w := by
    intro K a w hy hS hK
    unfold wpOpIn
    rw [hi]
    dsimp only
    rcases hy with ⟨hw, hv⟩ | ⟨hw, rfl⟩
    · rw [if_pos hw]
      refine ⟨fun f _ => hall f, ?_⟩
      rw [Oper.semAt_eq _ _ _ (noDefer_at hnd hi), hv w hS]
      exact hK
    · rw [if_neg (by rw [hw]; decide)]
      exact ⟨fun f _ => hall f, hK⟩
  intro k
  induction k with
  | zero =>
    intro listed a w _ _ hr hy hS h
    refine ⟨fun e => absurd (e ▸ hr) (by simp), fun j hj => ?_⟩
    by_cases e : j = i
    · subst e; exact now _ a w hy hS ⟨fun _ => hS, h⟩
    · have hm := ready_mono hj e
      rw [h.1] at hm
      cases hm
  | succ k ih =>
    intro listed a w hsz hf hr hy hS h
    refine ⟨fun e => absurd (e ▸ hr) (by simp), fun j hj => ?_⟩
    by_cases e : j = i
    · subst e; exact now _ a w hy hS ⟨fun _ => hS, h⟩
    obtain ⟨hun, oj, hoj, hal⟩ := mem_ready.1 hj
    have hiu := (mem_ready.1 hr).1
    have far : ∀ x : Nat, listed.getD x true = false → ∀ y, listed.getD y false = true → y ≠ x := by
      intro x hx y hy e
      subst e
      rcases Nat.lt_or_ge y listed.size with hl | hl
      · simp [hl] at hx hy; rw [hx] at hy; cases hy
      · simp [Array.getElem?_eq_none hl] at hy
    have hnot : ∀ x ∈ oj.after, Region.binds md x = true → x.on ≠ i := fun x hx hb => far i hiu _ (hal x hx hb)
    have hjz : j ∉ z := by
      intro hm
      have h1 := List.all_eq_true.1 hz j hm
      rw [poss_not hsz hiu hj e] at h1
      simp [e] at h1
    have hap := hf j oj hoj e hun hnot
    refine wpOpIn_mono (fun b u h3 => ?_) (wpOpIn_past hall hnd hi hoj hap hs hQ hy (h.2 j (ready_mono hj e)))
    have hSu := h3.2.1 hjz
    refine ⟨fun _ => hSu, ih _ _ _ (closed_set hsz hj) ?_ (ready_mono hr (Ne.symm e)) h3.1 hSu ?_⟩
    · intro m om hm hmi hmu hno
      refine hf m om hm hmi ?_ hno
      by_cases hjm : j = m
      · subst hjm; exact hun
      · rw [getD_set_ne true hjm] at hmu; exact hmu
    · rw [Array.setIfInBounds_comm _ _ e]
      exact h3.2.2

theorem RgI.begin {K : Act → World → Prop} {id : Nat} {a : Act} {w : World} (S : World → Prop) (z : List Nat) (hm : P.follows .mixedOrders = true)
    (h : RgI F n P .any ops (OnlyNormal K) S z ops.size (Array.replicate ops.size false) a w.drew) : (Code.region id ops true).wpIn F n P (Exit.then K Q) a w :=
  wpIn_mono (wpIn_region_any hm (RgI.any _ _ _ _ h)) (by intro e a w h; cases e <;> first | exact h | exact h.elim)
theorem RgI.begin' {id : Nat} {a : Act} {w : World} (S : World → Prop) (z : List Nat) (hm : P.follows .mixedOrders = true)
    (h : RgI F n P .any ops (OnlyNormal fun a w => Q .normal a w) S z ops.size (Array.replicate ops.size false) a w.drew) : (Code.region id ops true).wpIn F n P Q a w :=
  wpIn_mono (wpIn_region_any hm (RgI.any _ _ _ _ h)) (by intro e a w h; cases e <;> first | exact h | exact h.elim)

theorem RgI.op {K : Act → World → Prop} (i : Nat) (d : Option Tmp) {oi : Oper} {v : Value} {fuel : Nat} {listed : Array Bool} {a a' : Act} {w : World} (hS : S w)
    (hall : ∀ f, F.fn f := by exact fun _ => trivial) (hi : ops[i]? = some oi := by rfl) (hd : oi.dst = d := by rfl)
    (hc : (Region.noSelect ops && noDefer ops && Region.free md ops listed i && (Region.ready md ops listed).contains i && (z.all fun j => j == i || !(poss md i ops.toList 0 []).getD j true) && closed md ops listed && Region.wanted oi (yielded ops a.tmps)) = true := by kernel_rfl)
    (hy : ∀ w, S w → (execOp a.eval oi).run P w = .ok (.value v) w) (ha : a.put d v = a')
    (h : RgI F n P md ops (OnlyNormal K) S z fuel (listed.setIfInBounds i true) a' w) : RgI F n P md ops (OnlyNormal K) S z (fuel + 1) listed a w := by
  simp only [Bool.and_eq_true, Bool.not_eq_true', beq_iff_eq] at hc
  obtain ⟨⟨⟨⟨⟨⟨h1, h0⟩, h2⟩, h3⟩, h4⟩, h5⟩, h6⟩ := hc
  exact RgI.first hall h0 hi h1 (fun _ _ _ h => h) h4 fuel listed a w h5 (Region.free_spec hi h2) (by simpa using h3) (.inl ⟨h6, hy⟩) hS (by rw [hd, ha]; exact h)
theorem RgI.pass {K : Act → World → Prop} (i : Nat) (d : Option Tmp) {oi : Oper} {fuel : Nat} {listed : Array Bool} {a a' : Act} {w : World} (hS : S w)
    (hall : ∀ f, F.fn f := by exact fun _ => trivial) (hi : ops[i]? = some oi := by rfl) (hd : oi.dst = d := by rfl)
    (hc : (Region.noSelect ops && noDefer ops && Region.free md ops listed i && (Region.ready md ops listed).contains i && (z.all fun j => j == i || !(poss md i ops.toList 0 []).getD j true) && closed md ops listed && !Region.wanted oi (yielded ops a.tmps)) = true := by kernel_rfl)
    (ha : a.put d undef = a')
    (h : RgI F n P md ops (OnlyNormal K) S z fuel (listed.setIfInBounds i true) a' w) : RgI F n P md ops (OnlyNormal K) S z (fuel + 1) listed a w := by
  simp only [Bool.and_eq_true, Bool.not_eq_true', beq_iff_eq] at hc
  obtain ⟨⟨⟨⟨⟨⟨h1, h0⟩, h2⟩, h3⟩, h4⟩, h5⟩, h6⟩ := hc
  exact RgI.first hall h0 hi h1 (fun _ _ _ h => h) h4 fuel listed a w h5 (Region.free_spec hi h2) (by simpa using h3) (.inr ⟨h6, rfl⟩) hS (by rw [hd, ha]; exact h)

theorem RgI.step {i : Nat} {o : Oper} {fuel : Nat} {listed : Array Bool} {a : Act} {w : World} (hall : ∀ f, F.fn f) (hnd : noDefer ops = true) (hi : ops[i]? = some o) (hr : Region.ready md ops listed = [i]) (hw : Region.wanted o (yielded ops a.tmps) = true)
    (h : o.uponIn F n P a (fun b u => (i ∉ z → S u) ∧ RgI F n P md ops Q S z fuel (listed.setIfInBounds i true) b u) Q ((execOp a.eval o).run P w)) : RgI F n P md ops Q S z (fuel + 1) listed a w := by
  refine ⟨fun e => (by rw [e] at hr; cases hr), fun j hj => ?_⟩
  rw [hr, List.mem_singleton] at hj
  subst hj
  unfold wpOpIn
  rw [hi]
  dsimp only
  rw [if_pos hw]
  refine ⟨fun f _ => hall f, ?_⟩
  rw [Oper.semAt_eq _ _ _ (noDefer_at hnd hi)]
  exact h
theorem RgI.run (i : Nat) (d : Option Tmp) {o : Oper} {v : Value} {fuel : Nat} {listed : Array Bool} {a a' : Act} {w w' : World}
    (hall : ∀ f, F.fn f := by exact fun _ => trivial) (hnd : noDefer ops = true := by kernel_rfl) (hi : ops[i]? = some o := by rfl) (hd : o.dst = d := by rfl) (hr : Region.ready md ops listed = [i] := by kernel_rfl) (hw : Region.wanted o (yielded ops a.tmps) = true := by rfl)
    (hrun : (execOp a.eval o).run P w = .ok (.value v) w') (ha : a.put d v = a') (hS : i ∉ z → S w')
    (h : RgI F n P md ops Q S z fuel (listed.setIfInBounds i true) a' w') : RgI F n P md ops Q S z (fuel + 1) listed a w := by
  refine RgI.step hall hnd hi hr hw ?_
  rw [hrun]
  refine ⟨hS, ?_⟩
  rw [hd, ha]
  exact h
theorem RgI.seq (i : Nat) (d : Option Tmp) {o : Oper} {v : Value} {fuel : Nat} {listed : Array Bool} {a a' : Act} {w : World} (hS : S w)
    (hall : ∀ f, F.fn f := by exact fun _ => trivial) (hnd : noDefer ops = true := by kernel_rfl) (hi : ops[i]? = some o := by rfl) (hd : o.dst = d := by rfl) (hr : Region.ready md ops listed = [i] := by kernel_rfl) (hw : Region.wanted o (yielded ops a.tmps) = true := by rfl)
    (hrun : (execOp a.eval o).run P w = .ok (.value v) w) (ha : a.put d v = a')
    (h : RgI F n P md ops Q S z fuel (listed.setIfInBounds i true) a' w) : RgI F n P md ops Q S z (fuel + 1) listed a w :=
  RgI.run i d hall hnd hi hd hr hw hrun ha (fun _ => hS) h
/-- An operation behind which S is not asked, where nothing else may come up. -/
theorem RgI.late (i : Nat) (d : Option Tmp) {o : Oper} {v : Value} {fuel : Nat} {listed : Array Bool} {a a' : Act} {w : World} (hz : i ∈ z := by decide)
    (hall : ∀ f, F.fn f := by exact fun _ => trivial) (hnd : noDefer ops = true := by kernel_rfl) (hi : ops[i]? = some o := by rfl) (hd : o.dst = d := by rfl) (hr : Region.ready md ops listed = [i] := by kernel_rfl) (hw : Region.wanted o (yielded ops a.tmps) = true := by rfl)
    (hrun : (execOp a.eval o).run P w = .ok (.value v) w) (ha : a.put d v = a')
    (h : RgI F n P md ops Q S z fuel (listed.setIfInBounds i true) a' w) : RgI F n P md ops Q S z (fuel + 1) listed a w :=
  RgI.run i d hall hnd hi hd hr hw hrun ha (fun h => absurd hz h) h
theorem RgI.store (i : Nat) {o : Oper} {fuel : Nat} {listed : Array Bool} {a : Act} {w w' : World}
    (hall : ∀ f, F.fn f := by exact fun _ => trivial) (hnd : noDefer ops = true := by kernel_rfl) (hi : ops[i]? = some o := by rfl) (hd : o.dst = none := by rfl) (hr : Region.ready md ops listed = [i] := by kernel_rfl) (hw : Region.wanted o (yielded ops a.tmps) = true := by rfl)
    (hrun : (execOp a.eval o).run P w = .ok .skip w') (hS : i ∉ z → S w')
    (h : RgI F n P md ops Q S z fuel (listed.setIfInBounds i true) a w') : RgI F n P md ops Q S z (fuel + 1) listed a w := by
  refine RgI.step hall hnd hi hr hw ?_
  rw [hrun]
  refine ⟨hS, ?_⟩
  rw [hd]
  exact h
theorem RgI.call (i : Nat) (d : Option Tmp) {o : Oper} {fuel : Nat} {listed : Array Bool} {a : Act} {w : World} {f : FuncId} {args : Array Value} {R : Ending → World → Prop}
    (hall : ∀ f, F.fn f := by exact fun _ => trivial) (hnd : noDefer ops = true := by kernel_rfl) (hi : ops[i]? = some o := by rfl) (hd : o.dst = d := by rfl) (hr : Region.ready md ops listed = [i] := by kernel_rfl) (hw : Region.wanted o (yielded ops a.tmps) = true := by rfl)
    (hn : F.depth.isSome = true → 1 ≤ n := by intro h; cases h)
    (hrun : (execOp a.eval o).run P w = .ok (.enter f args) w) (hcall : CallsIn F (n - 1) P f args w R)
    (h : ∀ e w', R e w' → ∃ v a', e = .returned v ∧ a.put d v = a' ∧ (i ∉ z → S w') ∧ RgI F n P md ops Q S z fuel (listed.setIfInBounds i true) a' w') : RgI F n P md ops Q S z (fuel + 1) listed a w := by
  refine RgI.step hall hnd hi hr hw ?_
  rw [hrun]
  refine ⟨hn, hcall.mono ?_⟩
  intro e w' hR
  obtain ⟨v, a', rfl, ha, hS, h2⟩ := h e w' hR
  refine ⟨hS, ?_⟩
  rw [hd, ha]
  exact h2
/-- A call of yield. -/
theorem RgI.yield (i : Nat) (d : Option Tmp) {o : Oper} {fuel : Nat} {listed : Array Bool} {a : Act} {w : World} {l : Nat} {args : Array Value} {R : Ending → World → Prop}
    (hall : ∀ f, F.fn f := by exact fun _ => trivial) (hnd : noDefer ops = true := by kernel_rfl) (hi : ops[i]? = some o := by rfl) (hd : o.dst = d := by rfl) (hr : Region.ready md ops listed = [i] := by kernel_rfl) (hw : Region.wanted o (yielded ops a.tmps) = true := by rfl)
    (hn : F.depth.isSome = true → 1 ≤ n := by intro h; cases h)
    (hrun : (execOp a.eval o).run P w = (Instr.yield l args).run P w) (hcall : YieldAt F (n - 1) P l args w R)
    (h : ∀ e w', R e w' → ∃ v a', e = .returned v ∧ a.put d v = a' ∧ (i ∉ z → S w') ∧ RgI F n P md ops Q S z fuel (listed.setIfInBounds i true) a' w') : RgI F n P md ops Q S z (fuel + 1) listed a w := by
  obtain ⟨fn, tmps, assign, body, hy, hR⟩ := hcall
  refine RgI.step hall hnd hi hr hw ?_
  rw [hrun, hy]
  refine ⟨hn, hR.mono ?_⟩
  intro e w' hR
  obtain ⟨v, a', rfl, ha, hS, h2⟩ := h e w' hR
  refine ⟨hS, ?_⟩
  rw [hd, ha]
  exact h2
theorem RgI.done {K : Act → World → Prop} {listed : Array Bool} {a : Act} {w : World} (fuel : Nat) (hr : Region.ready md ops listed = [] := by kernel_rfl) (h : K a w) : RgI F n P md ops (OnlyNormal K) S z fuel listed a w := by
  cases fuel with
  | zero => exact ⟨hr, h⟩
  | succ k => exact ⟨fun _ => h, by rw [hr]; simp⟩
end
end Go.Proofs.YtidohbhcjnmmeaaDoor
