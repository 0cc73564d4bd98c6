/-
  A region that draws its order, inside a round of a loop over a function: where no operation of it calls, what holds of it plainly holds there.
-/
import Derived.OrdersIn
import Derived.OrdersHeld
import Derived.WalkKit
namespace Go.Proofs.YtidohbhcjnmmeaaDoor
set_option linter.unusedSimpArgs false
set_option linter.unusedVariables false

/-- An operation that calls nothing and defers nothing. -/
def plainOp (o : Oper) : Bool :=
  match o.op with
  | .load .. | .store .. | .fieldAddr .. | .indexAddr .. | .move .. | .assign .. | .pick .. | .binOp .. | .unOp .. | .convert .. | .field .. | .index .. | .extract .. | .nilCheck .. | .alloc .. | .box .. | .build .. => true
  | _ => false

theorem noCall_v {P : Program} {s : Sem Value} {w : World} {n : Next} {w' : World} (h : (do pure (Next.value (← s)) : Sem Next).run P w = .ok n w') : ∃ v, n = .value v := by
  simp only [Sem.run_bind, Sem.run_pure] at h
  cases hs : s.run P w with
  | ok v w1 => rw [hs] at h; simp only [Result.andThen, Result.ok.injEq] at h; exact ⟨v, h.1.symm⟩
  | halt x w1 => rw [hs] at h; simp only [Result.andThen] at h; cases h
theorem noCall_u {P : Program} {s : Sem Unit} {w : World} {n : Next} {w' : World} (h : (do s; pure Next.skip : Sem Next).run P w = .ok n w') : n = .skip := by
  simp only [Sem.run_bind, Sem.run_pure] at h
  cases hs : s.run P w with
  | ok v w1 => rw [hs] at h; simp only [Result.andThen, Result.ok.injEq] at h; exact h.1.symm
  | halt x w1 => rw [hs] at h; simp only [Result.andThen] at h; cases h

theorem plain_run {P : Program} {o : Oper} (hp : plainOp o = true) {ρ : Operand → Value} {w : World} (x : Next) (w' : World) (h : (execOp ρ o).run P w = .ok x w') : (∃ v, x = .value v) ∨ x = .skip := by
  unfold execOp at h
  unfold plainOp at hp
  cases ho : o.op <;> rw [ho] at h hp <;> simp only [Bool.false_eq_true] at hp <;> dsimp only at h
  case move | assign => simp only [Sem.run_pure, Result.ok.injEq] at h; exact .inl ⟨_, h.1.symm⟩
  case pick c a b => exact .inl (noCall_v (s := do pure (if ← asBool (ρ c) then ρ a else ρ b)) (by simpa [Sem.run_bind, Sem.run_pure] using h))
  case store => exact .inr (noCall_u h)
  case nilCheck y =>
    split at h
    case h_1 | h_2 | h_3 => simp [runtimePanic, go_sem] at h
    · split at h
      · simp [runtimePanic, go_sem] at h
      · simp only [Sem.run_bind] at h
        cases h1 : Sem.run P program w with
        | halt z w1 => rw [h1] at h; simp only [Result.andThen] at h; cases h
        | ok pr w1 =>
          rw [h1] at h
          simp only [Result.andThen] at h
          split at h
          · rename_i b w2 hb
            split at h
            · simp [unsupported, Sem.run_bind, Sem.run, Result.andThen] at h
            · simp only [Sem.run_pure, Result.ok.injEq] at h; exact .inl ⟨_, h.1.symm⟩
          · cases h
      · simp only [Sem.run_pure, Result.ok.injEq] at h; exact .inl ⟨_, h.1.symm⟩
    · simp only [Sem.run_pure, Result.ok.injEq] at h; exact .inl ⟨_, h.1.symm⟩
  all_goals exact .inl (noCall_v h)

theorem wpOpIn_of_wpOp {F : Fence} {n : Nat} {P : Program} {ops : Array Oper} {Q : Exit → Act → World → Prop} (hp : ops.toList.all plainOp = true) (hQ : ∀ a w, ¬ Q .outgrown a w) {i : Nat} {K K' : Act → World → Prop} (hK : ∀ a w, K a w → K' a w) {a : Act} {w : World}
    (h : wpOp P ops Q i K a w) : wpOpIn F n P ops Q i K' a w := by
  unfold wpOp at h
  unfold wpOpIn
  cases ho : ops[i]? with
  | none => rw [ho] at h; exact hK _ _ h
  | some o =>
    rw [ho] at h
    dsimp only at h ⊢
    have hpo : plainOp o = true := by
      rw [List.all_eq_true] at hp
      exact hp o (by rw [Array.mem_toList_iff]; exact Array.mem_of_getElem? ho)
    have hcall : ∀ c, o.op ≠ .call c := by intro c e; unfold plainOp at hpo; rw [e] at hpo; cases hpo
    have hdef : ∀ c, o.op ≠ .defer c := by intro c e; unfold plainOp at hpo; rw [e] at hpo; cases hpo
    have hab : ∀ f, o.about P w a.eval = some f → F.fn f := by
      intro f hf
      unfold Oper.about at hf
      cases ho' : o.op <;> rw [ho'] at hf <;> first | cases hf | exact absurd ho' (hcall _)
    split
    · rename_i hw
      rw [if_pos hw] at h
      refine ⟨hab, ?_⟩
      rw [Oper.semAt_eq _ _ _ hdef]
      have h := h.resolve_right (fun ⟨_, a0, w0, hq⟩ => hQ a0 w0 hq)
      unfold Oper.wp at h
      have hr := fun x w' e => plain_run (P := P) hpo (ρ := a.eval) (w := w) x w' e
      generalize (execOp a.eval o).run P w = r at *
      cases r with
      | ok x w' =>
        rcases hr x w' rfl with ⟨v, rfl⟩ | rfl
        · exact hK _ _ h
        · exact hK _ _ h
      | halt x w' => cases x <;> simp only [Oper.upon] at h ⊢ <;> exact h
    · rename_i hw
      rw [if_neg hw] at h
      exact ⟨hab, hK _ _ h⟩

theorem wpAnyIn_of_held {F : Fence} {n : Nat} {P : Program} {md : Region.Mode} {ops : Array Oper} {Q : Exit → Act → World → Prop} {S : World → Prop} (hp : ops.toList.all plainOp = true) (hQ : ∀ a w, ¬ Q .outgrown a w) :
    ∀ (fuel : Nat) (listed : Array Bool) (a : Act) (w : World), wpAnyH P md ops Q S fuel listed a w → wpAnyIn F n P md ops Q fuel listed a w
  | 0, _, _, _, h => h
  | fuel + 1, _, _, _, h => ⟨h.1, fun i hi => wpOpIn_of_wpOp hp hQ (fun a' w' h' => wpAnyIn_of_held hp hQ fuel _ a' w' h'.2) (h.2 i hi)⟩

theorem wpIn_region_held {F : Fence} {n : Nat} {P : Program} {id : Nat} {ops : Array Oper} {Q : Exit → Act → World → Prop} {a : Act} {w : World} (S : World → Prop) (hm : P.follows .mixedOrders = true) (hp : ops.toList.all plainOp = true) (hQ : ∀ a w, ¬ Q .outgrown a w)
    (h : wpAnyH P .any ops Q S ops.size (Array.replicate ops.size false) a w.drew) : (Code.region id ops true).wpIn F n P Q a w :=
  wpIn_region_any hm (wpAnyIn_of_held hp hQ _ _ _ _ h)
/-- The last operation of a region: a store. -/
theorem wpAnyH_last {P : Program} {md : Region.Mode} {ops : Array Oper} {Q : Exit → Act → World → Prop} {S : World → Prop} {i : Nat} {o : Oper} {fuel : Nat} {listed : Array Bool} {a : Act} {w : World} (w' : World) (hi : ops[i]? = some o)
    (hr : Region.ready md ops listed = [i]) (hd : Region.ready md ops (listed.setIfInBounds i true) = []) (hw : Region.wanted o (yielded ops a.tmps) = true) (hrun : (execOp a.eval o).run P w = .ok .skip w') (hS : S w')
    (h : Q .normal (a.put o.dst undef) w') : wpAnyH P md ops Q S (fuel + 1) listed a w := by
  refine wpAnyH_all hr (by simp) ?_
  intro j hj
  simp only [List.mem_singleton] at hj
  subst hj
  unfold wpOp
  rw [hi]
  dsimp only
  rw [if_pos hw]
  refine .inl ?_
  unfold Oper.wp
  rw [hrun]
  exact ⟨hS, wpAnyH_done hd h fuel⟩

/-- What comes to a normal end needs no word on panics. -/
def OnlyNormal (K : Act → World → Prop) : Exit → Act → World → Prop
  | .normal, a, w => K a w
  | _, _, _ => False
theorem wp_quietly {P : Program} {c : Code} {K : Act → World → Prop} {Q : Exit → Act → World → Prop} {a : Act} {w : World} (h : c.wp P (OnlyNormal K) a w) : c.wp P (Exit.then K Q) a w :=
  wp_mono h (by intro e a w h; cases e <;> first | exact h | exact h.elim)

/-- A call within a region, where nothing else may come up. -/
theorem wpAnyH_call {P : Program} {md : Region.Mode} {ops : Array Oper} {Q : Exit → Act → World → Prop} {S : World → Prop} {i : Nat} {o : Oper} {fuel : Nat} {listed : Array Bool} {a : Act} {w : World} {f : FuncId} {args : Array Value} {R : Ending → World → Prop} (hi : ops[i]? = some o)
    (hr : Region.ready md ops listed = [i]) (hw : Region.wanted o (yielded ops a.tmps) = true) (hrun : (execOp a.eval o).run P w = .ok (.enter f args) w) (hcall : Calls P f args w R)
    (h : ∀ e w', R e w' → ∃ v, e = .returned v ∧ S w' ∧ wpAnyH P md ops Q S fuel (listed.setIfInBounds i true) (a.put o.dst v) w') : wpAnyH P md ops Q S (fuel + 1) listed a w := by
  refine wpAnyH_all hr (by simp) ?_
  intro j hj
  simp only [List.mem_singleton] at hj
  subst hj
  unfold wpOp
  rw [hi]
  dsimp only
  rw [if_pos hw]
  refine .inl ?_
  unfold Oper.wp
  rw [hrun]
  refine hcall.mono ?_
  intro e w' hR
  obtain ⟨v, rfl, hS, h2⟩ := h e w' hR
  exact ⟨hS, h2⟩

/-- The beginning of a region that draws, where it comes to a normal end: what is held of all worlds on the way is S. -/
theorem wp_region_quietly {P : Program} {id : Nat} {ops : Array Oper} {K : Act → World → Prop} {Q : Exit → Act → World → Prop} {a : Act} {w : World} (S : World → Prop) (hm : P.follows .mixedOrders = true)
    (h : wpAnyH P .any ops (OnlyNormal K) S ops.size (Array.replicate ops.size false) a w.drew) : (Code.region id ops true).wp P (Exit.then K Q) a w :=
  wp_quietly (wp_region_held hm h)

/-- An operation taken first, the frame behind it spelled out. -/
theorem wpAnyH_op {P : Program} {md : Region.Mode} {ops : Array Oper} {Q : Exit → Act → World → Prop} {S : World → Prop} {i : Nat} {oi : Oper} (d : Option Tmp) {v : Value} {fuel : Nat} {listed : Array Bool} {a a' : Act} {w : World} (hi : ops[i]? = some oi) (hd : oi.dst = d)
    (hs : Region.noSelect ops = true) (hf : Region.free md ops listed i = true) (hr : (Region.ready md ops listed).contains i = true)
    (hQ : ∀ c a w, Q (.panic c) (a.put oi.dst v) w → Q (.panic c) a w) (hw : Region.wanted oi (yielded ops a.tmps) = true) (hy : ∀ w, S w → (execOp a.eval oi).run P w = .ok (.value v) w) (ha : a.put d v = a') (hS : S w)
    (h : wpAnyH P md ops Q S fuel (listed.setIfInBounds i true) a' w) : wpAnyH P md ops Q S (fuel + 1) listed a w :=
  wpAnyH_take hi hs hf hr hQ (.inl ⟨hw, hy⟩) hS (by rw [hd, ha]; exact h)
/-- .. passed over. -/
theorem wpAnyH_pass {P : Program} {md : Region.Mode} {ops : Array Oper} {Q : Exit → Act → World → Prop} {S : World → Prop} {i : Nat} {oi : Oper} (d : Option Tmp) {fuel : Nat} {listed : Array Bool} {a a' : Act} {w : World} (hi : ops[i]? = some oi) (hd : oi.dst = d)
    (hs : Region.noSelect ops = true) (hf : Region.free md ops listed i = true) (hr : (Region.ready md ops listed).contains i = true)
    (hQ : ∀ c a w, Q (.panic c) (a.put oi.dst undef) w → Q (.panic c) a w) (hw : Region.wanted oi (yielded ops a.tmps) = false) (ha : a.put d undef = a') (hS : S w)
    (h : wpAnyH P md ops Q S fuel (listed.setIfInBounds i true) a' w) : wpAnyH P md ops Q S (fuel + 1) listed a w :=
  wpAnyH_take hi hs hf hr hQ (.inr ⟨hw, rfl⟩) hS (by rw [hd, ha]; exact h)

theorem wpAnyH_at {P : Program} {md : Region.Mode} {ops : Array Oper} {Q : Exit → Act → World → Prop} {S : World → Prop} {oi : Oper} (d : Option Tmp) {v : Value} {fuel : Nat} {listed : Array Bool} {a a' : Act} {w : World} (hd : oi.dst = d) (ha : a.put d v = a')
    (h : wpAnyH P md ops Q S fuel listed a' w) : wpAnyH P md ops Q S fuel listed (a.put oi.dst v) w := by rw [hd, ha]; exact h

/-- An operation that runs to its end, where nothing else may come up. -/
theorem wpAnyH_run {P : Program} {md : Region.Mode} {ops : Array Oper} {Q : Exit → Act → World → Prop} {S : World → Prop} {i : Nat} {o : Oper} (d : Option Tmp) {v : Value} {fuel : Nat} {listed : Array Bool} {a a' : Act} {w w' : World} (hi : ops[i]? = some o) (hd : o.dst = d)
    (hr : Region.ready md ops listed = [i]) (hw : Region.wanted o (yielded ops a.tmps) = true) (hrun : (execOp a.eval o).run P w = .ok (.value v) w') (ha : a.put d v = a') (hS : S w')
    (h : wpAnyH P md ops Q S fuel (listed.setIfInBounds i true) a' w') : wpAnyH P md ops Q S (fuel + 1) listed a w := by
  refine wpAnyH_all hr (by simp) ?_
  intro j hj
  simp only [List.mem_singleton] at hj
  subst hj
  unfold wpOp
  rw [hi]
  dsimp only
  rw [if_pos hw]
  refine .inl ?_
  unfold Oper.wp
  rw [hrun]
  refine ⟨hS, ?_⟩
  rw [hd, ha]
  exact h
/-- A store, where nothing else may come up. -/
theorem wpAnyH_store {P : Program} {md : Region.Mode} {ops : Array Oper} {Q : Exit → Act → World → Prop} {S : World → Prop} {i : Nat} {o : Oper} {fuel : Nat} {listed : Array Bool} {a : Act} {w w' : World} (hi : ops[i]? = some o) (hd : o.dst = none)
    (hr : Region.ready md ops listed = [i]) (hw : Region.wanted o (yielded ops a.tmps) = true) (hrun : (execOp a.eval o).run P w = .ok .skip w') (hS : S w')
    (h : wpAnyH P md ops Q S fuel (listed.setIfInBounds i true) a w') : wpAnyH P md ops Q S (fuel + 1) listed a w := by
  refine wpAnyH_all hr (by simp) ?_
  intro j hj
  simp only [List.mem_singleton] at hj
  subst hj
  unfold wpOp
  rw [hi]
  dsimp only
  rw [if_pos hw]
  refine .inl ?_
  unfold Oper.wp
  rw [hrun]
  refine ⟨hS, ?_⟩
  rw [hd]
  exact h

end Go.Proofs.YtidohbhcjnmmeaaDoor
