/-
  Regions that draw their order, once more: what is held of all worlds on the way (S) is not asked behind one operation z that waits for all that is taken ahead of it: a store at the end may hit the cells that the region loads.
-/
import Derived.OrdersHeld
import Derived.WalkKit
import Derived.Test.YtidohbhcjnmmeaaDoorRoundRegion
namespace Go.Proofs.YtidohbhcjnmmeaaDoor
set_option linter.unusedSimpArgs false
set_option linter.unusedVariables false

/-- What may have come up as long as operation i has not (edges that point forward do not count). -/
def poss (md : Region.Mode) (i : Nat) : List Oper → Nat → List Bool → List Bool
  | [], _, acc => acc
  | o :: os, k, acc => poss md i os (k + 1) (acc ++ [k != i && o.after.all fun e => !Region.binds md e || acc.getD e.on true])
/-- What has come up holds all that it waits for. -/
def closed (md : Region.Mode) (ops : Array Oper) (listed : Array Bool) : Bool :=
  (List.range ops.size).all fun k => !listed.getD k false || ((ops[k]?).map (·.after.all fun e => !Region.binds md e || listed.getD e.on false)).getD true

theorem poss_length (md : Region.Mode) (i : Nat) : ∀ (os : List Oper) (k : Nat) (acc : List Bool), (poss md i os k acc).length = acc.length + os.length
  | [], _, _ => rfl
  | o :: os, k, acc => by rw [poss, poss_length md i os]; simp; omega
theorem closed_at {md : Region.Mode} {ops : Array Oper} {listed : Array Bool} (h : closed md ops listed = true) {k : Nat} {o : Oper} (ho : ops[k]? = some o) (hk : listed.getD k false = true) : ∀ e ∈ o.after, Region.binds md e = true → listed.getD e.on false = true := by
  intro e he hb
  unfold closed at h
  rw [List.all_eq_true] at h
  have h1 := h k (List.mem_range.2 (Array.getElem?_eq_some_iff.1 ho).1)
  rw [hk, ho] at h1
  simp only [Bool.not_true, Bool.false_or, Option.map_some, Option.getD_some, Array.all_eq_true_iff_forall_mem] at h1
  have := h1 e he
  rw [hb] at this
  simpa using this
theorem closed_set {md : Region.Mode} {ops : Array Oper} {listed : Array Bool} (h : closed md ops listed = true) {j : Nat} (hj : j ∈ Region.ready md ops listed) : closed md ops (listed.setIfInBounds j true) = true := by
  obtain ⟨_, o, ho, hall⟩ := mem_ready.1 hj
  unfold closed
  rw [List.all_eq_true]
  intro k hk
  by_cases hl : (listed.setIfInBounds j true).getD k false = true
  · rw [hl, Bool.not_true, Bool.false_or]
    cases hok : ops[k]? with
    | none => rfl
    | some ok =>
      simp only [Option.map_some, Option.getD_some, Array.all_eq_true_iff_forall_mem]
      intro e he
      cases hb : Region.binds md e with
      | false => rfl
      | true =>
        simp only [Bool.not_true, Bool.false_or]
        refine getD_set_true ?_
        by_cases e1 : j = k
        · subst e1
          rw [ho] at hok
          injection hok with hok
          subst hok
          exact hall e he hb
        · rw [getD_set_ne false e1] at hl
          exact closed_at h hok hl e he hb
  · simp [hl]
theorem poss_spec {md : Region.Mode} {i : Nat} {listed : Array Bool} (hi : listed.getD i true = false) :
    ∀ (os : List Oper) (acc : List Bool), (∀ m, m < acc.length → listed.getD m false = true → acc.getD m true = true) →
      (∀ m o, os[m]? = some o → listed.getD (acc.length + m) false = true → ∀ e ∈ o.after, Region.binds md e = true → listed.getD e.on false = true) →
      ∀ m, m < acc.length + os.length → listed.getD m false = true → (poss md i os acc.length acc).getD m true = true
  | [], acc, h, _, m, hm, hl => h m (by simpa using hm) hl
  | o :: os, acc, h, hc, m, hm, hl => by
    have hlen : (acc ++ [acc.length != i && o.after.all fun e => !Region.binds md e || acc.getD e.on true]).length = acc.length + 1 := by simp
    rw [poss]
    rw [← hlen]
    refine poss_spec hi os _ ?_ ?_ m (by simp at hm ⊢; omega) hl
    · intro x hx hlx
      rw [hlen] at hx
      by_cases e : x < acc.length
      · rw [List.getD_eq_getElem?_getD, List.getElem?_append_left e, ← List.getD_eq_getElem?_getD]; exact h x e hlx
      · obtain rfl : x = acc.length := by omega
        rw [List.getD_eq_getElem?_getD, List.getElem?_append_right (Nat.le_refl _)]
        simp only [Nat.sub_self, List.getElem?_cons_zero, Option.getD_some, Bool.and_eq_true, bne_iff_ne, Array.all_eq_true_iff_forall_mem]
        refine ⟨?_, fun e he => ?_⟩
        · rintro rfl
          rcases Nat.lt_or_ge acc.length listed.size with hs | hs
          · simp [hs] at hi hlx; rw [hi] at hlx; cases hlx
          · simp [Array.getElem?_eq_none hs] at hlx
        · cases hb : Region.binds md e with
          | false => rfl
          | true =>
            simp only [Bool.not_true, Bool.false_or]
            have h2 := hc 0 o rfl (by simpa using hlx) e he hb
            by_cases e2 : e.on < acc.length
            · exact h _ e2 h2
            · rw [List.getD_eq_getElem?_getD, List.getElem?_eq_none (by omega)]; rfl
    · intro x ox hox hlx
      rw [hlen] at hlx
      exact hc (x + 1) ox (by simpa using hox) (by rw [show acc.length + (x + 1) = acc.length + 1 + x from by omega]; exact hlx)
/-- What may not come up as long as i has not. -/
theorem poss_not {md : Region.Mode} {ops : Array Oper} {i j : Nat} {listed : Array Bool} (hc : closed md ops listed = true) (hi : listed.getD i true = false) (hj : j ∈ Region.ready md ops listed) (hne : j ≠ i) : (poss md i ops.toList 0 []).getD j true = true := by
  obtain ⟨hun, oj, hoj, hall⟩ := mem_ready.1 hj
  have hi' : (listed.setIfInBounds j true).getD i true = false := by rw [getD_set_ne true hne]; exact hi
  have hjlt : j < listed.size := by
    rcases Nat.lt_or_ge j listed.size with h | h
    · exact h
    · simp [Array.getElem?_eq_none h] at hun
  have := poss_spec (md := md) hi' ops.toList [] (fun m hm => absurd hm (by simp)) (fun m o ho hl => closed_at (closed_set hc hj) (by simpa using ho) (by simpa using hl)) j
    (by have := (Array.getElem?_eq_some_iff.1 hoj).1; simpa using this) (by simp [hjlt])
  simpa using this

section
variable {P : Program} {ops : Array Oper} {Q : Exit → Act → World → Prop} {md : Region.Mode} {S : World → Prop} {z : List Nat}

/-- Whatever order is picked from here on; S holds behind every operation but z. -/
def Rg (P : Program) (md : Region.Mode) (ops : Array Oper) (Q : Exit → Act → World → Prop) (S : World → Prop) (z : List Nat) : Nat → Array Bool → Act → World → Prop
  | 0, listed, a, w => Region.ready md ops listed = [] ∧ Q .normal a w
  | k + 1, listed, a, w => (Region.ready md ops listed = [] → Q .normal a w) ∧
      ∀ j ∈ Region.ready md ops listed, wpOp P ops Q j (fun b u => (j ∉ z → S u) ∧ Rg P md ops Q S z k (listed.setIfInBounds j true) b u) a w

theorem Rg.any : ∀ (k : Nat) (listed : Array Bool) (a : Act) (w : World), Rg P md ops Q S z k listed a w → wpAny P md ops Q k listed a w
  | 0, _, _, _, h => h
  | k + 1, _, _, _, h => ⟨h.1, fun j hj => wpOp_mono (fun b u hb => Rg.any k _ b u hb.2) (h.2 j hj)⟩

theorem Rg.first {i : Nat} {oi : Oper} {v : Value} (hi : ops[i]? = some oi) (hs : Region.noSelect ops = true) (hQ : ∀ c a w, Q (.panic c) (a.put oi.dst v) w → Q (.panic c) a w)
    (hz : (z.all fun j => j == i || !(poss md i ops.toList 0 []).getD j true) = true) :
    ∀ (k : Nat) (listed : Array Bool) (a : Act) (w : World), closed md ops listed = true →
      (∀ j oj, ops[j]? = some oj → j ≠ i → listed.getD j true = false → (∀ e ∈ oj.after, Region.binds md e = true → e.on ≠ i) → oi.apart ops oj = true) →
      i ∈ Region.ready md ops listed → YieldsIf P ops S oi v a → S w →
      Rg P md ops Q S z k (listed.setIfInBounds i true) (a.put oi.dst v) w → Rg P md ops Q S z (k + 1) listed a w := by
  have now : ∀ (K : Act → World → Prop) (a : Act) (w : World), YieldsIf P ops S oi v a → S w → K (a.put oi.dst v) w → wpOp P ops Q i K a w := fun K a w hy hS hK => hy.wpOp hi hS hK
  intro k
  induction k with
  | zero =>
    intro listed a w _ _ hr hy hS h
    refine ⟨fun e => absurd (e ▸ hr) (by simp), fun j hj => ?_⟩
    by_cases e : j = i
    · subst e; exact now _ a w hy hS ⟨fun _ => hS, h⟩
    · have hm := ready_mono hj e
      rw [h.1] at hm
      cases hm
  | succ k ih =>
    intro listed a w hsz hf hr hy hS h
    refine ⟨fun e => absurd (e ▸ hr) (by simp), fun j hj => ?_⟩
    by_cases e : j = i
    · subst e; exact now _ a w hy hS ⟨fun _ => hS, h⟩
    obtain ⟨hun, oj, hoj, hall⟩ := mem_ready.1 hj
    have hiu := (mem_ready.1 hr).1
    have far : ∀ x : Nat, listed.getD x true = false → ∀ y, listed.getD y false = true → y ≠ x := by
      intro x hx y hy e
      subst e
      rcases Nat.lt_or_ge y listed.size with hl | hl
      · simp [hl] at hx hy; rw [hx] at hy; cases hy
      · simp [Array.getElem?_eq_none hl] at hy
    have hnot : ∀ x ∈ oj.after, Region.binds md x = true → x.on ≠ i := fun x hx hb => far i hiu _ (hall x hx hb)
    have hjz : j ∉ z := by
      intro hm
      have h1 := List.all_eq_true.1 hz j hm
      rw [poss_not hsz hiu hj e] at h1
      simp [e] at h1
    have hap := hf j oj hoj e hun hnot
    have h2 := wpOp_putIf hoj hap (fun cs b => Region.noSelect_spec hs i oi cs b hi) (fun cs b => Region.noSelect_spec hs j oj cs b hoj) hQ hy (h.2 j (ready_mono hj e))
    refine wpOp_mono (fun b u h3 => ?_) h2
    have hSu := h3.2.1 hjz
    refine ⟨fun _ => hSu, ih _ _ _ (closed_set hsz hj) ?_ (ready_mono hr (Ne.symm e)) h3.1 hSu ?_⟩
    · intro m om hm hmi hmu hno
      refine hf m om hm hmi ?_ hno
      by_cases hjm : j = m
      · subst hjm; exact hun
      · rw [getD_set_ne true hjm] at hmu; exact hmu
    · rw [Array.setIfInBounds_comm _ _ e]
      exact h3.2.2

/-! The moves, with what a program can decide filled in. -/

/-- The beginning. -/
theorem Rg.begin {K : Act → World → Prop} {id : Nat} {a : Act} {w : World} (S : World → Prop) (z : List Nat) (hm : P.follows .mixedOrders = true)
    (h : Rg P .any ops (OnlyNormal K) S z ops.size (Array.replicate ops.size false) a w.drew) : (Code.region id ops true).wp P (Exit.then K Q) a w :=
  wp_quietly (wp_region_any hm (Rg.any _ _ _ _ h))
theorem Rg.begin' {id : Nat} {a : Act} {w : World} (S : World → Prop) (z : List Nat) (hm : P.follows .mixedOrders = true) 
    (h : Rg P .any ops (OnlyNormal fun a w => Q .normal a w) S z ops.size (Array.replicate ops.size false) a w.drew) : (Code.region id ops true).wp P Q a w :=
  wp_mono (wp_region_any hm (Rg.any _ _ _ _ h)) (by intro e a w h; cases e <;> first | exact h | exact h.elim)

/-- An operation that only reads, taken first. -/
theorem Rg.op {K : Act → World → Prop} (i : Nat) (d : Option Tmp) {oi : Oper} {v : Value} {fuel : Nat} {listed : Array Bool} {a a' : Act} {w : World} (hS : S w)
    (hi : ops[i]? = some oi := by rfl) (hd : oi.dst = d := by rfl)
    (hc : (Region.noSelect ops && Region.free md ops listed i && (Region.ready md ops listed).contains i && (z.all fun j => j == i || !(poss md i ops.toList 0 []).getD j true) && closed md ops listed && Region.wanted oi (yielded ops a.tmps)) = true := by kernel_rfl)
    (hy : ∀ w, S w → (execOp a.eval oi).run P w = .ok (.value v) w) (ha : a.put d v = a')
    (h : Rg P md ops (OnlyNormal K) S z fuel (listed.setIfInBounds i true) a' w) : Rg P md ops (OnlyNormal K) S z (fuel + 1) listed a w := by
  simp only [Bool.and_eq_true, Bool.not_eq_true', beq_iff_eq] at hc
  obtain ⟨⟨⟨⟨⟨h1, h2⟩, h3⟩, h4⟩, h5⟩, h6⟩ := hc
  exact Rg.first hi h1 (fun _ _ _ h => h) h4 fuel listed a w h5 (Region.free_spec hi h2) (by simpa using h3) (.inl ⟨h6, hy⟩) hS (by rw [hd, ha]; exact h)
/-- .. passed over. -/
theorem Rg.pass {K : Act → World → Prop} (i : Nat) (d : Option Tmp) {oi : Oper} {fuel : Nat} {listed : Array Bool} {a a' : Act} {w : World} (hS : S w)
    (hi : ops[i]? = some oi := by rfl) (hd : oi.dst = d := by rfl)
    (hc : (Region.noSelect ops && Region.free md ops listed i && (Region.ready md ops listed).contains i && (z.all fun j => j == i || !(poss md i ops.toList 0 []).getD j true) && closed md ops listed && !Region.wanted oi (yielded ops a.tmps)) = true := by kernel_rfl)
    (ha : a.put d undef = a')
    (h : Rg P md ops (OnlyNormal K) S z fuel (listed.setIfInBounds i true) a' w) : Rg P md ops (OnlyNormal K) S z (fuel + 1) listed a w := by
  simp only [Bool.and_eq_true, Bool.not_eq_true', beq_iff_eq] at hc
  obtain ⟨⟨⟨⟨⟨h1, h2⟩, h3⟩, h4⟩, h5⟩, h6⟩ := hc
  exact Rg.first hi h1 (fun _ _ _ h => h) h4 fuel listed a w h5 (Region.free_spec hi h2) (by simpa using h3) (.inr ⟨h6, rfl⟩) hS (by rw [hd, ha]; exact h)

theorem Rg.step {i : Nat} {o : Oper} {fuel : Nat} {listed : Array Bool} {a : Act} {w : World} (hi : ops[i]? = some o) (hr : Region.ready md ops listed = [i]) (hw : Region.wanted o (yielded ops a.tmps) = true)
    (h : o.wp P a w (fun b u => (i ∉ z → S u) ∧ Rg P md ops Q S z fuel (listed.setIfInBounds i true) b u) Q) : Rg P md ops Q S z (fuel + 1) listed a w := by
  refine ⟨fun e => (by rw [e] at hr; cases hr), fun j hj => ?_⟩
  rw [hr, List.mem_singleton] at hj
  subst hj
  unfold wpOp
  rw [hi]
  dsimp only
  rw [if_pos hw]
  exact .inl h

/-- An operation that makes memory, where nothing else may come up. -/
theorem Rg.run (i : Nat) (d : Option Tmp) {o : Oper} {v : Value} {fuel : Nat} {listed : Array Bool} {a a' : Act} {w w' : World}
    (hi : ops[i]? = some o := by rfl) (hd : o.dst = d := by rfl) (hr : Region.ready md ops listed = [i] := by kernel_rfl) (hw : Region.wanted o (yielded ops a.tmps) = true := by rfl)
    (hrun : (execOp a.eval o).run P w = .ok (.value v) w') (ha : a.put d v = a') (hS : i ∉ z → S w')
    (h : Rg P md ops Q S z fuel (listed.setIfInBounds i true) a' w') : Rg P md ops Q S z (fuel + 1) listed a w := by
  refine Rg.step hi hr hw ?_
  unfold Oper.wp
  rw [hrun]
  refine ⟨hS, ?_⟩
  rw [hd, ha]
  exact h
/-- An operation that only reads, where nothing else may come up. -/
theorem Rg.seq (i : Nat) (d : Option Tmp) {o : Oper} {v : Value} {fuel : Nat} {listed : Array Bool} {a a' : Act} {w : World} (hS : S w)
    (hi : ops[i]? = some o := by rfl) (hd : o.dst = d := by rfl) (hr : Region.ready md ops listed = [i] := by kernel_rfl) (hw : Region.wanted o (yielded ops a.tmps) = true := by rfl)
    (hrun : (execOp a.eval o).run P w = .ok (.value v) w) (ha : a.put d v = a')
    (h : Rg P md ops Q S z fuel (listed.setIfInBounds i true) a' w) : Rg P md ops Q S z (fuel + 1) listed a w :=
  Rg.run i d hi hd hr hw hrun ha (fun _ => hS) h
/-- An operation behind which S is not asked, where nothing else may come up. -/
theorem Rg.late (i : Nat) (d : Option Tmp) {o : Oper} {v : Value} {fuel : Nat} {listed : Array Bool} {a a' : Act} {w : World} (hz : i ∈ z := by decide)
    (hi : ops[i]? = some o := by rfl) (hd : o.dst = d := by rfl) (hr : Region.ready md ops listed = [i] := by kernel_rfl) (hw : Region.wanted o (yielded ops a.tmps) = true := by rfl)
    (hrun : (execOp a.eval o).run P w = .ok (.value v) w) (ha : a.put d v = a')
    (h : Rg P md ops Q S z fuel (listed.setIfInBounds i true) a' w) : Rg P md ops Q S z (fuel + 1) listed a w :=
  Rg.run i d hi hd hr hw hrun ha (fun h => absurd hz h) h
/-- A store, where nothing else may come up. -/
theorem Rg.store (i : Nat) {o : Oper} {fuel : Nat} {listed : Array Bool} {a : Act} {w w' : World}
    (hi : ops[i]? = some o := by rfl) (hd : o.dst = none := by rfl) (hr : Region.ready md ops listed = [i] := by kernel_rfl) (hw : Region.wanted o (yielded ops a.tmps) = true := by rfl)
    (hrun : (execOp a.eval o).run P w = .ok .skip w') (hS : i ∉ z → S w')
    (h : Rg P md ops Q S z fuel (listed.setIfInBounds i true) a w') : Rg P md ops Q S z (fuel + 1) listed a w := by
  refine Rg.step hi hr hw ?_
  unfold Oper.wp
  rw [hrun]
  refine ⟨hS, ?_⟩
  rw [hd]
  exact h
/-- A call, where nothing else may come up. -/
theorem Rg.call (i : Nat) (d : Option Tmp) {o : Oper} {fuel : Nat} {listed : Array Bool} {a : Act} {w : World} {f : FuncId} {args : Array Value} {R : Ending → World → Prop}
    (hi : ops[i]? = some o := by rfl) (hd : o.dst = d := by rfl) (hr : Region.ready md ops listed = [i] := by kernel_rfl) (hw : Region.wanted o (yielded ops a.tmps) = true := by rfl)
    (hrun : (execOp a.eval o).run P w = .ok (.enter f args) w) (hcall : Calls P f args w R)
    (h : ∀ e w', R e w' → ∃ v a', e = .returned v ∧ a.put d v = a' ∧ (i ∉ z → S w') ∧ Rg P md ops Q S z fuel (listed.setIfInBounds i true) a' w') : Rg P md ops Q S z (fuel + 1) listed a w := by
  refine Rg.step hi hr hw ?_
  unfold Oper.wp
  rw [hrun]
  refine hcall.mono ?_
  intro e w' hR
  obtain ⟨v, a', rfl, ha, hS, h2⟩ := h e w' hR
  refine ⟨hS, ?_⟩
  rw [hd, ha]
  exact h2
theorem Rg.done {K : Act → World → Prop} {listed : Array Bool} {a : Act} {w : World} (fuel : Nat) (hr : Region.ready md ops listed = [] := by kernel_rfl) (h : K a w) : Rg P md ops (OnlyNormal K) S z fuel listed a w := by
  cases fuel with
  | zero => exact ⟨hr, h⟩
  | succ k => exact ⟨fun _ => h, by rw [hr]; simp⟩
/-- The builtin append, its operands spelled out. -/
theorem run_opAppend {P : Program} {o : Oper} {a : Act} {w w' : World} (s x : Operand) (t T : TypeId) (vs vx : Value) {v : Value} (ho : o.op = .call { callee := .builtin .append, args := #[s, x], argTypes := #[t, t] })
    (hT : o.type = T) (hs : a.eval s = vs) (hx : a.eval x = vx) (h : (Builtin.append_ #[t, t] T #[vs, vx]).run P w = .ok v w') : (execOp a.eval o).run P w = .ok (.value v) w' := by
  unfold execOp
  simp only [ho, hT, hs, hx, resolve, invoke, builtin, Sem.run_bind, Sem.run_pure, Result.andThen_ok, List.map_toArray, List.map_cons, List.map_nil, h]
/-- Whichever of those that may come up comes up. -/
theorem Rg.all {rs : List Nat} {fuel : Nat} {listed : Array Bool} {a : Act} {w : World} (hr : Region.ready md ops listed = rs) (hne : rs ≠ [])
    (h : ∀ i ∈ rs, wpOp P ops Q i (fun b u => (i ∉ z → S u) ∧ Rg P md ops Q S z fuel (listed.setIfInBounds i true) b u) a w) : Rg P md ops Q S z (fuel + 1) listed a w :=
  ⟨fun e => absurd (hr ▸ e) hne, hr ▸ h⟩
end
end Go.Proofs.YtidohbhcjnmmeaaDoor
