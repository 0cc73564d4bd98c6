/-
  Reg, WalStream, in one text.
-/
import Derived.OrdersHeld
import Derived.WalkKit
import Derived.Test.YtfapklpcgcgahaaGreatDoorMg03
import Derived.Test.YtfapklpcgcgahaaGreatDoorMg06
/-
  Regions that draw their order, once more: what is held of all worlds on the way (S) is not asked behind one operation z that waits for all that is taken ahead of it: a store at the end may hit the cells that the region loads.
-/
namespace Go.Proofs.YtfapklpcgcgahaaGreatDoor
set_option linter.unusedSimpArgs false
set_option linter.unusedVariables false

/-- What may have come up as long as operation i has not (edges that point forward do not count). -/
def poss (md : Region.Mode) (i : Nat) : List Oper → Nat → List Bool → List Bool
  | [], _, acc => acc
  | o :: os, k, acc => poss md i os (k + 1) (acc ++ [k != i && o.after.all fun e => !Region.binds md e || acc.getD e.on true])
/-- What has come up holds all that it waits for. -/
def closed (md : Region.Mode) (ops : Array Oper) (listed : Array Bool) : Bool :=
  (List.range ops.size).all fun k => !listed.getD k false || ((ops[k]?).map (·.after.all fun e => !Region.binds md e || listed.getD e.on false)).getD true

theorem closed_at {md : Region.Mode} {ops : Array Oper} {listed : Array Bool} (h : closed md ops listed = true) {k : Nat} {o : Oper} (ho : ops[k]? = some o) (hk : listed.getD k false = true) : ∀ e ∈ o.after, Region.binds md e = true → listed.getD e.on false = true := by
  intro e he hb
  unfold closed at h
  rw [List.all_eq_true] at h
  have h1 := h k (List.mem_range.2 (Array.getElem?_eq_some_iff.1 ho).1)
  rw [hk, ho] at h1
  simp only [Bool.not_true, Bool.false_or, Option.map_some, Option.getD_some, Array.all_eq_true_iff_forall_mem] at h1
  have := h1 e he
  rw [hb] at this
  simpa using this
theorem closed_set {md : Region.Mode} {ops : Array Oper} {listed : Array Bool} (h : closed md ops listed = true) {j : Nat} (hj : j ∈ Region.ready md ops listed) : closed md ops (listed.setIfInBounds j true) = true := by
  obtain ⟨_, o, ho, hall⟩ := mem_ready.1 hj
  unfold closed
  rw [List.all_eq_true]
  intro k hk
  by_cases hl : (listed.setIfInBounds j true).getD k false = true
  · rw [hl, Bool.not_true, Bool.false_or]
    cases hok : ops[k]? with
    | none => rfl
    | some ok =>
      simp only [Option.map_some, Option.getD_some, Array.all_eq_true_iff_forall_mem]
      intro e he
      cases hb : Region.binds md e with
      | false => rfl
      | true =>
        simp only [Bool.not_true, Bool.false_or]
        refine getD_set_true ?_
        by_cases e1 : j = k
        · subst e1
          rw [ho] at hok
          injection hok with hok
          subst hok
          exact hall e he hb
        · rw [getD_set_ne false e1] at hl
          exact closed_at h hok hl e he hb
  · simp [hl]
theorem poss_spec {md : Region.Mode} {i : Nat} {listed : Array Bool} (hi : listed.getD i true = false) :
    ∀ (os : List Oper) (acc : List Bool), (∀ m, m < acc.length → listed.getD m false = true → acc.getD m true = true) →
      (∀ m o, os[m]? = some o → listed.getD (acc.length + m) false = true → ∀ e ∈ o.after, Region.binds md e = true → listed.getD e.on false = true) →
      ∀ m, m < acc.length + os.length → listed.getD m false = true → (poss md i os acc.length acc).getD m true = true
  | [], acc, h, _, m, hm, hl => h m (by simpa using hm) hl
  | o :: os, acc, h, hc, m, hm, hl => by
    have hlen : (acc ++ [acc.length != i && o.after.all fun e => !Region.binds md e || acc.getD e.on true]).length = acc.length + 1 := by simp
    rw [poss]
    rw [← hlen]
    refine poss_spec hi os _ ?_ ?_ m (by simp at hm ⊢; omega) hl
    · intro x hx hlx
      rw [hlen] at hx
      by_cases e : x < acc.length
      · rw [List.getD_eq_getElem?_getD, List.getElem?_append_left e, ← List.getD_eq_getElem?_getD]; exact h x e hlx
      · obtain rfl : x = acc.length := by omega
        rw [List.getD_eq_getElem?_getD, List.getElem?_append_right (Nat.le_refl _)]
        simp only [Nat.sub_self, List.getElem?_cons_zero, Option.getD_some, Bool.and_eq_true, bne_iff_ne, Array.all_eq_true_iff_forall_mem]
        refine ⟨?_, fun e he => ?_⟩
        · rintro rfl
          rcases Nat.lt_or_ge acc.length listed.size with hs | hs
          · simp [hs] at hi hlx; rw [hi] at hlx; cases hlx
          · simp [Array.getElem?_eq_none hs] at hlx
        · cases hb : Region.binds md e with
          | false => rfl
          | true =>
            simp only [Bool.not_true, Bool.false_or]
            have h2 := hc 0 o rfl (by simpa using hlx) e he hb
            by_cases e2 : e.on < acc.length
            · exact h _ e2 h2
            · rw [List.getD_eq_getElem?_getD, List.getElem?_eq_none (by omega)]; rfl
    · intro x ox hox hlx
      rw [hlen] at hlx
      exact hc (x + 1) ox (by simpa using hox) (by rw [show acc.length + (x + 1) = acc.length + 1 + x from by omega]; exact hlx)
/-- What may not come up as long as i has not. -/
theorem poss_not {md : Region.Mode} {ops : Array Oper} {i j : Nat} {listed : Array Bool} (hc : closed md ops listed = true) (hi : listed.getD i true = false) (hj : j ∈ Region.ready md ops listed) (hne : j ≠ i) : (poss md i ops.toList 0 []).getD j true = true := by
  obtain ⟨hun, oj, hoj, hall⟩ := mem_ready.1 hj
  have hi' : (listed.setIfInBounds j true).getD i true = false := by rw [getD_set_ne true hne]; exact hi
  have hjlt : j < listed.size := by
    rcases Nat.lt_or_ge j listed.size with h | h
    · exact h
    · simp [Array.getElem?_eq_none h] at hun
  have := poss_spec (md := md) hi' ops.toList [] (fun m hm => absurd hm (by simp)) (fun m o ho hl => closed_at (closed_set hc hj) (by simpa using ho) (by simpa using hl)) j
    (by have := (Array.getElem?_eq_some_iff.1 hoj).1; simpa using this) (by simp [hjlt])
  simpa using this

section
variable {P : Program} {ops : Array Oper} {Q : Exit → Act → World → Prop} {md : Region.Mode} {S : World → Prop} {z : List Nat}

/-- Whatever order is picked from here on; S holds behind every operation but z. -/
def Rg (P : Program) (md : Region.Mode) (ops : Array Oper) (Q : Exit → Act → World → Prop) (S : World → Prop) (z : List Nat) : Nat → Array Bool → Act → World → Prop
  | 0, listed, a, w => Region.ready md ops listed = [] ∧ Q .normal a w
  | k + 1, listed, a, w => (Region.ready md ops listed = [] → Q .normal a w) ∧
      ∀ j ∈ Region.ready md ops listed, wpOp P ops Q j (fun b u => (j ∉ z → S u) ∧ Rg P md ops Q S z k (listed.setIfInBounds j true) b u) a w

theorem Rg.any : ∀ (k : Nat) (listed : Array Bool) (a : Act) (w : World), Rg P md ops Q S z k listed a w → wpAny P md ops Q k listed a w
  | 0, _, _, _, h => h
  | k + 1, _, _, _, h => ⟨h.1, fun j hj => wpOp_mono (fun b u hb => Rg.any k _ b u hb.2) (h.2 j hj)⟩

theorem Rg.first {i : Nat} {oi : Oper} {v : Value} (hi : ops[i]? = some oi) (hs : Region.noSelect ops = true) (hQ : ∀ c a w, Q (.panic c) (a.put oi.dst v) w → Q (.panic c) a w)
    (hz : (z.all fun j => j == i || !(poss md i ops.toList 0 []).getD j true) = true) :
    ∀ (k : Nat) (listed : Array Bool) (a : Act) (w : World), closed md ops listed = true →
      (∀ j oj, ops[j]? = some oj → j ≠ i → listed.getD j true = false → (∀ e ∈ oj.after, Region.binds md e = true → e.on ≠ i) → oi.apart ops oj = true) →
      i ∈ Region.ready md ops listed → YieldsIf P ops S oi v a → S w →
      Rg P md ops Q S z k (listed.setIfInBounds i true) (a.put oi.dst v) w → Rg P md ops Q S z (k + 1) listed a w := by
  have now : ∀ (K : Act → World → Prop) (a : Act) (w : World), YieldsIf P ops S oi v a → S w → K (a.put oi.dst v) w → wpOp P ops Q i K a w := fun K a w hy hS hK => hy.wpOp hi hS hK
  intro k
  induction k with
  | zero =>
    intro listed a w _ _ hr hy hS h
    refine ⟨fun e => absurd (e ▸ hr) (by simp), fun j hj => ?_⟩
    by_cases e : j = i
    · subst e; exact now _ a w hy hS ⟨fun _ => hS, h⟩
    · have hm := ready_mono hj e
      rw [h.1] at hm
      cases hm
  | succ k ih =>
    intro listed a w hsz hf hr hy hS h
    refine ⟨fun e => absurd (e ▸ hr) (by simp), fun j hj => ?_⟩
    by_cases e : j = i
    · subst e; exact now _ a w hy hS ⟨fun _ => hS, h⟩
    obtain ⟨hun, oj, hoj, hall⟩ := mem_ready.1 hj
    have hiu := (mem_ready.1 hr).1
    have far : ∀ x : Nat, listed.getD x true = false → ∀ y, listed.getD y false = true → y ≠ x := by
      intro x hx y hy e
      subst e
      rcases Nat.lt_or_ge y listed.size with hl | hl
      · simp [hl] at hx hy; rw [hx] at hy; cases hy
      · simp [Array.getElem?_eq_none hl] at hy
    have hnot : ∀ x ∈ oj.after, Region.binds md x = true → x.on ≠ i := fun x hx hb => far i hiu _ (hall x hx hb)
    have hjz : j ∉ z := by
      intro hm
      have h1 := List.all_eq_true.1 hz j hm
      rw [poss_not hsz hiu hj e] at h1
      simp [e] at h1
    have hap := hf j oj hoj e hun hnot
    have h2 := wpOp_putIf hoj hap (fun cs b => Region.noSelect_spec hs i oi cs b hi) (fun cs b => Region.noSelect_spec hs j oj cs b hoj) hQ hy (h.2 j (ready_mono hj e))
    refine wpOp_mono (fun b u h3 => ?_) h2
    have hSu := h3.2.1 hjz
    refine ⟨fun _ => hSu, ih _ _ _ (closed_set hsz hj) ?_ (ready_mono hr (Ne.symm e)) h3.1 hSu ?_⟩
    · intro m om hm hmi hmu hno
      refine hf m om hm hmi ?_ hno
      by_cases hjm : j = m
      · subst hjm; exact hun
      · rw [getD_set_ne true hjm] at hmu; exact hmu
    · rw [Array.setIfInBounds_comm _ _ e]
      exact h3.2.2

/-! The moves, with what a program can decide filled in. -/

/-- The beginning. -/
theorem Rg.begin {K : Act → World → Prop} {id : Nat} {a : Act} {w : World} (S : World → Prop) (z : List Nat) (hm : P.follows .mixedOrders = true)
    (h : Rg P .any ops (OnlyNormal K) S z ops.size (Array.replicate ops.size false) a w.drew) : (Code.region id ops true).wp P (Exit.then K Q) a w :=
  wp_quietly (wp_region_any hm (Rg.any _ _ _ _ h))
theorem Rg.begin' {id : Nat} {a : Act} {w : World} (S : World → Prop) (z : List Nat) (hm : P.follows .mixedOrders = true) 
    (h : Rg P .any ops (OnlyNormal fun a w => Q .normal a w) S z ops.size (Array.replicate ops.size false) a w.drew) : (Code.region id ops true).wp P Q a w :=
  wp_mono (wp_region_any hm (Rg.any _ _ _ _ h)) (by intro e a w h; cases e <;> first | exact h | exact h.elim)

/-- An operation that only reads, taken first. -/
theorem Rg.op {K : Act → World → Prop} (i : Nat) (d : Option Tmp) {oi : Oper} {v : Value} {fuel : Nat} {listed : Array Bool} {a a' : Act} {w : World} (hS : S w)
    (hi : ops[i]? = some oi := by rfl) (hd : oi.dst = d := by rfl)
    (hc : (Region.noSelect ops && Region.free md ops listed i && (Region.ready md ops listed).contains i && (z.all fun j => j == i || !(poss md i ops.toList 0 []).getD j true) && closed md ops listed && Region.wanted oi (yielded ops a.tmps)) = true := by kernel_rfl)
    (hy : ∀ w, S w → (execOp a.eval oi).run P w = .ok (.value v) w) (ha : a.put d v = a' := by simp only [Act.put, List.setIfInBounds_toArray, List.set_cons_zero, List.set_cons_succ]; rfl)
    (h : Rg P md ops (OnlyNormal K) S z fuel (listed.setIfInBounds i true) a' w) : Rg P md ops (OnlyNormal K) S z (fuel + 1) listed a w := by
  simp only [Bool.and_eq_true, Bool.not_eq_true', beq_iff_eq] at hc
  obtain ⟨⟨⟨⟨⟨h1, h2⟩, h3⟩, h4⟩, h5⟩, h6⟩ := hc
  exact Rg.first hi h1 (fun _ _ _ h => h) h4 fuel listed a w h5 (Region.free_spec hi h2) (by simpa using h3) (.inl ⟨h6, hy⟩) hS (by rw [hd, ha]; exact h)
/-- .. passed over. -/
theorem Rg.pass {K : Act → World → Prop} (i : Nat) (d : Option Tmp) {oi : Oper} {fuel : Nat} {listed : Array Bool} {a a' : Act} {w : World} (hS : S w)
    (hi : ops[i]? = some oi := by rfl) (hd : oi.dst = d := by rfl)
    (hc : (Region.noSelect ops && Region.free md ops listed i && (Region.ready md ops listed).contains i && (z.all fun j => j == i || !(poss md i ops.toList 0 []).getD j true) && closed md ops listed && !Region.wanted oi (yielded ops a.tmps)) = true := by kernel_rfl)
    (ha : a.put d undef = a' := by simp only [Act.put, List.setIfInBounds_toArray, List.set_cons_zero, List.set_cons_succ]; rfl)
    (h : Rg P md ops (OnlyNormal K) S z fuel (listed.setIfInBounds i true) a' w) : Rg P md ops (OnlyNormal K) S z (fuel + 1) listed a w := by
  simp only [Bool.and_eq_true, Bool.not_eq_true', beq_iff_eq] at hc
  obtain ⟨⟨⟨⟨⟨h1, h2⟩, h3⟩, h4⟩, h5⟩, h6⟩ := hc
  exact Rg.first hi h1 (fun _ _ _ h => h) h4 fuel listed a w h5 (Region.free_spec hi h2) (by simpa using h3) (.inr ⟨h6, rfl⟩) hS (by rw [hd, ha]; exact h)

theorem Rg.step {i : Nat} {o : Oper} {fuel : Nat} {listed : Array Bool} {a : Act} {w : World} (hi : ops[i]? = some o) (hr : Region.ready md ops listed = [i]) (hw : Region.wanted o (yielded ops a.tmps) = true)
    (h : o.wp P a w (fun b u => (i ∉ z → S u) ∧ Rg P md ops Q S z fuel (listed.setIfInBounds i true) b u) Q) : Rg P md ops Q S z (fuel + 1) listed a w := by
  refine ⟨fun e => (by rw [e] at hr; cases hr), fun j hj => ?_⟩
  rw [hr, List.mem_singleton] at hj
  subst hj
  unfold wpOp
  rw [hi]
  dsimp only
  rw [if_pos hw]
  exact .inl h

/-- An operation that makes memory, where nothing else may come up. -/
theorem Rg.run (i : Nat) (d : Option Tmp) {o : Oper} {v : Value} {fuel : Nat} {listed : Array Bool} {a a' : Act} {w w' : World}
    (hi : ops[i]? = some o := by rfl) (hd : o.dst = d := by rfl) (hr : Region.ready md ops listed = [i] := by kernel_rfl) (hw : Region.wanted o (yielded ops a.tmps) = true := by rfl)
    (hrun : (execOp a.eval o).run P w = .ok (.value v) w') (ha : a.put d v = a' := by simp only [Act.put, List.setIfInBounds_toArray, List.set_cons_zero, List.set_cons_succ]; rfl) (hS : i ∉ z → S w')
    (h : Rg P md ops Q S z fuel (listed.setIfInBounds i true) a' w') : Rg P md ops Q S z (fuel + 1) listed a w := by
  refine Rg.step hi hr hw ?_
  unfold Oper.wp
  rw [hrun]
  refine ⟨hS, ?_⟩
  rw [hd, ha]
  exact h
/-- An operation behind which S is not asked, where nothing else may come up. -/
theorem Rg.late (i : Nat) (d : Option Tmp) {o : Oper} {v : Value} {fuel : Nat} {listed : Array Bool} {a a' : Act} {w : World} (hz : i ∈ z := by decide)
    (hi : ops[i]? = some o := by rfl) (hd : o.dst = d := by rfl) (hr : Region.ready md ops listed = [i] := by kernel_rfl) (hw : Region.wanted o (yielded ops a.tmps) = true := by rfl)
    (hrun : (execOp a.eval o).run P w = .ok (.value v) w) (ha : a.put d v = a' := by simp only [Act.put, List.setIfInBounds_toArray, List.set_cons_zero, List.set_cons_succ]; rfl)
    (h : Rg P md ops Q S z fuel (listed.setIfInBounds i true) a' w) : Rg P md ops Q S z (fuel + 1) listed a w :=
  Rg.run i d hi hd hr hw hrun ha (fun h => absurd hz h) h
/-- A store, where nothing else may come up. -/
theorem Rg.store (i : Nat) {o : Oper} {fuel : Nat} {listed : Array Bool} {a : Act} {w w' : World}
    (hi : ops[i]? = some o := by rfl) (hd : o.dst = none := by rfl) (hr : Region.ready md ops listed = [i] := by kernel_rfl) (hw : Region.wanted o (yielded ops a.tmps) = true := by rfl)
    (hrun : (execOp a.eval o).run P w = .ok .skip w') (hS : i ∉ z → S w')
    (h : Rg P md ops Q S z fuel (listed.setIfInBounds i true) a w') : Rg P md ops Q S z (fuel + 1) listed a w := by
  refine Rg.step hi hr hw ?_
  unfold Oper.wp
  rw [hrun]
  refine ⟨hS, ?_⟩
  rw [hd]
  exact h
/-- A call, where nothing else may come up. -/
theorem Rg.call (i : Nat) (d : Option Tmp) {o : Oper} {fuel : Nat} {listed : Array Bool} {a : Act} {w : World} {f : FuncId} {args : Array Value} {R : Ending → World → Prop}
    (hi : ops[i]? = some o := by rfl) (hd : o.dst = d := by rfl) (hr : Region.ready md ops listed = [i] := by kernel_rfl) (hw : Region.wanted o (yielded ops a.tmps) = true := by rfl)
    (hrun : (execOp a.eval o).run P w = .ok (.enter f args) w) (hcall : Calls P f args w R)
    (h : ∀ e w', R e w' → ∃ v a', e = .returned v ∧ a.put d v = a' ∧ (i ∉ z → S w') ∧ Rg P md ops Q S z fuel (listed.setIfInBounds i true) a' w') : Rg P md ops Q S z (fuel + 1) listed a w := by
  refine Rg.step hi hr hw ?_
  unfold Oper.wp
  rw [hrun]
  refine hcall.mono ?_
  intro e w' hR
  obtain ⟨v, a', rfl, ha, hS, h2⟩ := h e w' hR
  refine ⟨hS, ?_⟩
  rw [hd, ha]
  exact h2
theorem Rg.done {K : Act → World → Prop} {listed : Array Bool} {a : Act} {w : World} (fuel : Nat) (hr : Region.ready md ops listed = [] := by kernel_rfl) (h : K a w) : Rg P md ops (OnlyNormal K) S z fuel listed a w := by
  cases fuel with
  | zero => exact ⟨hr, h⟩
  | succ k => exact ⟨fun _ => h, by rw [hr]; simp⟩
/-- The builtin append, its operands spelled out. -/
theorem run_opAppend {P : Program} {o : Oper} {a : Act} {w w' : World} (s x : Operand) (t T : TypeId) (vs vx : Value) {v : Value} (ho : o.op = .call { callee := .builtin .append, args := #[s, x], argTypes := #[t, t] })
    (hT : o.type = T) (hs : a.eval s = vs) (hx : a.eval x = vx) (h : (Builtin.append_ #[t, t] T #[vs, vx]).run P w = .ok v w') : (execOp a.eval o).run P w = .ok (.value v) w' := by
  unfold execOp
  simp only [ho, hT, hs, hx, resolve, invoke, builtin, Sem.run_bind, Sem.run_pure, Result.andThen_ok, List.map_toArray, List.map_cons, List.map_nil, h]
/-- Whichever of those that may come up comes up. -/
theorem Rg.all {rs : List Nat} {fuel : Nat} {listed : Array Bool} {a : Act} {w : World} (hr : Region.ready md ops listed = rs) (hne : rs ≠ [])
    (h : ∀ i ∈ rs, wpOp P ops Q i (fun b u => (i ∉ z → S u) ∧ Rg P md ops Q S z fuel (listed.setIfInBounds i true) b u) a w) : Rg P md ops Q S z (fuel + 1) listed a w :=
  ⟨fun e => absurd (hr ▸ e) hne, hr ▸ h⟩
end
end Go.Proofs.YtfapklpcgcgahaaGreatDoor

/-
  All bytes from where a log begins: stream.
-/
namespace Go.Proofs.YtfapklpcgcgahaaGreatDoor
set_option linter.unusedSimpArgs false
set_option linter.unusedVariables false
open Go.RowKit

/-- Is it a sector that was written whole? -/
def pGood (b : List UInt8) : Bool := decide (pN b ≤ 48) && pOk b
theorem pGood_le {b : List UInt8} (h : pGood b = true) : pN b ≤ 48 ∧ pOk b = true := by
  unfold pGood at h
  simpa using h
theorem pOwn_length {b : List UInt8} (h : pN b ≤ 48) (hl : b.length = 64) : (pOwn b).length = pN b := by
  unfold pOwn
  rw [List.length_take, List.length_drop]
  omega
theorem parse_good (g : Nat) (b : List UInt8) (w : World) (hb : Blk w g 5 (bts b).toArray) (hl : b.length = 64) (h : pGood b = true) :
    Calls Tryz.prog 104 #[.slice (some ⟨g, 0, none⟩) 64 64] w fun e w' => e = .returned (.tuple #[.int .u64 (pNo b), .int .u64 (pLife b), .slice (some ⟨g, 16, none⟩) (pN b) 48, .bool true]) ∧ Fr Nob w w' := by
  refine (parse_any g b w hb hl).mono ?_
  rintro e w' ⟨rfl, hf⟩
  obtain ⟨h1, h2⟩ := pGood_le h
  unfold parsed
  rw [if_neg (by omega), h2]
  exact ⟨rfl, hf⟩
theorem parse_bad (g : Nat) (b : List UInt8) (w : World) (hb : Blk w g 5 (bts b).toArray) (hl : b.length = 64) (h : pGood b = false) :
    Calls Tryz.prog 104 #[.slice (some ⟨g, 0, none⟩) 64 64] w fun e w' => ∃ x y A n c, e = .returned (.tuple #[.int .u64 x, .int .u64 y, .slice A n c, .bool false]) ∧ Fr Nob w w' := by
  refine (parse_any g b w hb hl).mono ?_
  rintro e w' ⟨rfl, hf⟩
  unfold parsed
  by_cases h1 : 48 < pN b
  · rw [if_pos h1]; exact ⟨_, _, _, _, _, rfl, hf⟩
  · rw [if_neg h1]
    have : pOk b = false := by
      unfold pGood at h
      rw [decide_eq_true (by omega)] at h
      simpa using h
    rw [this]
    exact ⟨_, _, _, _, _, rfl, hf⟩

structure St where
  out : List UInt8
  life : Nat
  ml : Nat
  op : Bool
def St.step (s : St) (x : Nat) (b : List UInt8) : St :=
  if s.op = true ∧ pGood b = true ∧ pNo b = x ∧ s.life ≤ pLife b then ⟨s.out ++ pOwn b, pLife b, max s.ml (pLife b), ((pN b : Int) == 48)⟩
  else ⟨s.out, s.life, if pGood b = true then max s.ml (pLife b) else s.ml, false⟩
def LS.str (L : LS) (S : DS) : Nat → St
  | 0 => ⟨[], 0, L.life, true⟩
  | k + 1 => (LS.str L S k).step (L.fin / 48 + k) (S.now.getD (L.place (L.fin / 48 + k)) [])
/-- What stream hands back. -/
def LS.bytes (L : LS) (S : DS) : List UInt8 := (L.str S (L.n - 2)).out.drop (L.fin % 48)
/-- .. and what it leaves. -/
def LS.streamed (L : LS) (S : DS) : LS := { L with life := (L.str S (L.n - 2)).ml }

theorem St.step_bounds {s : St} (x k : Nat) (b : List UInt8) (hl : b.length = 64) (h : s.out.length ≤ 48 * k ∧ s.life < 18446744073709551616 ∧ s.ml < 18446744073709551616) :
    (s.step x b).out.length ≤ 48 * (k + 1) ∧ (s.step x b).life < 18446744073709551616 ∧ (s.step x b).ml < 18446744073709551616 := by
  have hp : pLife b < 18446744073709551616 := getN_lt _
  have hm : max s.ml (pLife b) < 18446744073709551616 := by rw [Nat.max_def]; split <;> omega
  unfold St.step
  split
  · rename_i hc
    have h48 := (pGood_le hc.2.1).1
    refine ⟨?_, hp, hm⟩
    show (s.out ++ pOwn b).length ≤ _
    rw [List.length_append, pOwn_length h48 hl]
    omega
  · refine ⟨?_, h.2.1, ?_⟩
    · show s.out.length ≤ _; omega
    · show (if pGood b = true then max s.ml (pLife b) else s.ml) < _
      split
      · exact hm
      · exact h.2.2
theorem LS.str_bounds {L : LS} {S : DS} (hS : ∀ (i : Nat) (s : List UInt8), S.now[i]? = some s → s.length = 64) (hf : L.start + L.n ≤ S.now.length) (hn : 16 ≤ L.n) (hl : L.life < 18446744073709551616) (k : Nat) :
    (L.str S k).out.length ≤ 48 * k ∧ (L.str S k).life < 18446744073709551616 ∧ (L.str S k).ml < 18446744073709551616 := by
  induction k with
  | zero => exact ⟨Nat.le_refl _, by show 0 < _; omega, hl⟩
  | succ k ih =>
    have hp : L.place (L.fin / 48 + k) < S.now.length := by
      unfold LS.place
      have := Nat.mod_lt (L.fin / 48 + k) (show 0 < L.n - 2 by omega)
      omega
    have hb : S.now[L.place (L.fin / 48 + k)]? = some (S.now.getD (L.place (L.fin / 48 + k)) []) := by
      rw [List.getD_eq_getElem?_getD, List.getElem?_eq_getElem hp]; rfl
    exact St.step_bounds _ k _ (hS _ _ hb) ih

set_option maxHeartbeats 1600000 in
set_option maxRecDepth 100000 in
theorem stream_any {w : World} {p d : Nat} {L : LS} {S : DS} {R RD : Nat → Prop} (h : WalIn w p d L S R RD) (hdead : S.dead = false) :
    Calls Tryz.prog 62 #[.pointer (some ⟨p, 0, none⟩)] w fun e w' => ∃ A c, e = .returned (.tuple #[.slice A (L.bytes S).length c, .int .i64 0]) ∧ BytesIn w' A (L.bytes S) ∧ (L.bytes S).length ≤ c ∧ (∀ a, A = some a → w.heap.size ≤ a.block ∧ a.block < w'.heap.size) ∧ WalIn w' p d (L.streamed S) S R RD ∧ Fr (fun b => b = p) w w' := by
  obtain ⟨i0, hi0, hz0, hz1, hz2⟩ := info_parts info_u8
  obtain ⟨lv, rv, hL⟩ := h.l
  have hn0 := hL.n0
  have hn1 := hL.n1
  have hfin := hL.b4
  have HB := Lib.hid (LS.str_bounds (L := L) (S := S) (fun i s hs => h.d.len64 hs) h.fits hL.n0 hL.b6)
  have HRg : Hid (Calls Tryz.prog 103 #[.pointer (some ⟨p, 0, none⟩)] w fun e w' => e = .returned (.int .u64 ((L.n - 2 : Nat))) ∧ w = w') := ring_any h.l
  have hbk := hL.blk
  have c7 := hbk.cell 7
  simp only [List.getElem?_toArray, List.getElem?_cons_zero, List.getElem?_cons_succ] at c7
  have hp := hbk.lt
  have HL0 : Hid (LogAt R w p d lv rv { L with life := (L.str S 0).ml }) := hL
  have HD0 : Hid (DiskOk RD w d S) := h.d
  have HF0 : Hid (Fr (fun b => b = p) w w) := Fr.refl _ _
  have HO0 : Hid (w.ownsRow w.heap.size 5 1 (.slice none 0 0) (L.str S 0).out.length (bts (L.str S 0).out)) := World.ownsRow_nil _ _ _ _
  have hap : ¬ RD p := h.apart p hL.rp
  have hplr : ∀ x, L.place x < S.now.length := fun x => by
    unfold LS.place
    have := Nat.mod_lt x (show 0 < L.n - 2 by omega)
    have := h.fits
    omega
  have HPl := Lib.hid hplr
  have H := Lib.hid h
  have Hd := Lib.hid hdead
  clear h hL hbk hdead hplr
  obtain ⟨r, hr⟩ : ∃ r, L.n - 2 = r := ⟨_, rfl⟩
  have HrL := Lib.hid hr
  rw [hr] at HRg
  have r0 : 14 ≤ r := by omega
  have r1 : r ≤ 32766 := by omega
  clear hr
  obtain ⟨no, hno⟩ : ∃ no, L.fin / 48 = no := ⟨_, rfl⟩
  have e0 : (L.fin : Int) / 48 = (no : Int) := by omega
  have hno1 : no ≤ 384307168202282325 := by omega
  have HNo := Lib.hid hno
  clear hno
  go_enter Tryz.func62, Tryz.ntmps62
  go_wp2_with (go_at_call 103; refine HRg.out.mono ?_; rintro e w' ⟨rfl, rfl⟩)
  go_loopw [4, 5, 7, 8, 9, 10, 11, 12, 13, 14, 22] (fun out li op _ _ _ _ _ _ _ i wr => ∃ (k : Nat) (s : St), k ≤ r ∧ Hid (L.str S k = s) ∧ i = .int .u64 k ∧ li = .int .u64 s.life ∧ op = .bool s.op ∧ Hid (wr.ownsRow w.heap.size 5 1 out s.out.length (bts s.out)) ∧ Hid (LogAt R wr p d lv rv { L with life := s.ml }) ∧ Hid (DiskOk RD wr d S) ∧ Hid (Fr (fun b => b = p) w wr)) (fun _ _ _ _ _ _ _ _ _ _ i _ => r - (intOf i).toNat)
  case atStart => exact ⟨0, L.str S 0, by omega, Lib.hid rfl, rfl, rfl, rfl, HO0, HL0, HD0, HF0⟩
  case round =>
    clear HL0 HD0 HF0 HO0 HRg c7
    obtain ⟨k, s, hk, hs, rfl, rfl, rfl, hO, hL, hD, hF⟩ := hrel
    have hsb := HB.out k
    rw [hs.out] at hsb
    have hpr : p < _ := hL.out.blk.lt
    by_cases hlt : k < r
    · obtain ⟨b, hb⟩ : ∃ b, S.now.getD (L.place (no + k)) [] = b := ⟨_, rfl⟩
      have hsn : S.now[L.place (no + k)]? = some b := by
        rw [← hb, List.getD_eq_getElem?_getD, List.getElem?_eq_getElem (HPl.out _)]; rfl
      have hl64 := hD.out.len64 hsn
      have hst : L.str S (k + 1) = s.step (no + k) b := by
        show (L.str S k).step (L.fin / 48 + k) _ = _
        rw [hs.out, HNo.out, hb]
      have HSn := Lib.hid hsn
      have HSt := Lib.hid hst
      have HL64 := Lib.hid hl64
      clear hb hsn hst hl64
      go_wp2
      have hS : Fr Nob wr wr.drew := (Fr.refl _ wr).drew
      refine Rg.begin (Fr Nob wr) [] (by kernel_rfl) ?_
      refine Rg.op 0 (some 26) hS (v := ?v0) (hy := fun wz hwz => ?h0) (h := ?_)
      case h0 => (go_simp; try with_reducible rfl)
      refine Rg.op 1 (some 27) hS (v := ?v1) (hy := fun wz hwz => ?h1) (h := ?_)
      case h1 => (have hb := (hL.out.blk.fr hwz (fun h => h)); have c0 := hb.cell 0; have hp := hb.lt; simp only [List.getElem?_toArray, List.getElem?_cons_zero, List.getElem?_cons_succ] at c0; clear hb; go_simp; try with_reducible rfl)
      refine Rg.op 2 (some 28) hS (v := ?v2) (hy := fun wz hwz => ?h2) (h := ?_)
      case h2 => (go_simp; try with_reducible rfl)
      refine Rg.op 3 (some 29) hS (v := ?v3) (hy := fun wz hwz => ?h3) (h := ?_)
      case h3 => (have hb := (hL.out.blk.fr hwz (fun h => h)); have c0 := hb.cell 0; have hp := hb.lt; simp only [List.getElem?_toArray, List.getElem?_cons_zero, List.getElem?_cons_succ] at c0; clear hb; go_simp; try with_reducible rfl)
      refine Rg.op 4 (some 30) hS (v := ?v4) (hy := fun wz hwz => ?h4) (h := ?_)
      case h4 => (go_simp; try with_reducible rfl)
      refine Rg.op 5 (some 31) hS (v := ?v5) (hy := fun wz hwz => ?h5) (h := ?_)
      case h5 => (go_simp; try with_reducible rfl)
      refine Rg.op 6 (some 32) hS (v := ?v6) (hy := fun wz hwz => ?h6) (h := ?_)
      case h6 => (go_simp; try with_reducible rfl)
      refine Rg.op 7 (some 33) hS (v := (.int .u64 ((no + k : Nat) : Int))) (hy := fun wz hwz => ?h7) (h := ?_)
      case h7 => (have e7 : IntKind.u64.wrap ((no : Int) + (k : Int)) = ((no + k : Nat) : Int) := (by rw [IntKind.wrap_u64]; omega); go_simp; try with_reducible rfl)
      refine Rg.call 8 (some 34) (hrun := ?h8) (hcall := place_any (no + k) (LogOk.new (L := { L with life := s.ml }) ⟨lv, rv, hL.out⟩ hS) (by omega)) (h := ?_)
      case h8 => (go_simp)
      rintro e w5 ⟨rfl, hf5⟩
      have hS5 : Fr Nob wr w5 := hS.trans hf5
      clear hf5
      refine ⟨_, ?a8, rfl, ?b8, (fun _ => hS5), ?_⟩
      case b8 => (simp only [Act.put, List.setIfInBounds_toArray, List.set_cons_zero, List.set_cons_succ]; rfl)
      refine Rg.call 9 (some 35) (hrun := ?h9) (hcall := Read_good (L.place (no + k)) b (hD.out.new hS5) Hd.out HSn.out) (h := ?_)
      case h9 => (go_simp; rfl)
      rintro e w6 ⟨rfl, hr6, hf6⟩
      obtain ⟨g6, hg6⟩ : ∃ g6, w5.heap.size = g6 := ⟨_, rfl⟩
      rw [hg6] at hr6 ⊢
      have hg6w : w.heap.size ≤ g6 := by have := hF.out.size; have := hS5.size; omega
      have hg6r : wr.heap.size ≤ g6 := by have := hS5.size; omega
      clear hg6
      have hS6 : Fr Nob wr w6 := hS5.trans hf6
      have HR6 := Lib.hid hr6
      clear hr6 hf6
      refine ⟨_, ?a9, rfl, ?b9, (fun _ => hS6), ?_⟩
      case b9 => (simp only [Act.put, List.setIfInBounds_toArray, List.set_cons_zero, List.set_cons_succ]; rfl)
      refine Rg.op 10 (some 25) hS6 (v := ?v10) (hy := fun wz hwz => ?h10) (h := ?_)
      case h10 => (go_simp; try with_reducible rfl)
      refine Rg.op 11 (some 36) hS6 (v := ?v11) (hy := fun wz hwz => ?h11) (h := ?_)
      case h11 => (go_simp; try with_reducible rfl)
      refine Rg.op 12 (some 37) hS6 (v := ?v12) (hy := fun wz hwz => ?h12) (h := ?_)
      case h12 => (go_simp; try with_reducible rfl)
      refine Rg.op 13 (some 9) hS6 (v := ?v13) (hy := fun wz hwz => ?h13) (h := ?_)
      case h13 => (go_simp; try with_reducible rfl)
      refine Rg.op 14 (some 10) hS6 (v := ?v14) (hy := fun wz hwz => ?h14) (h := ?_)
      case h14 => (go_simp; try with_reducible rfl)
      refine Rg.done _ (h := ?_)
      have hL6 := Lib.hid (hL.out.fr hS6 (fun _ _ h => h))
      have hD6 := Lib.hid (hD.out.new hS6)
      have hF6 := Lib.hid (hF.out.trans (hS6.mono (fun _ _ h => h.elim)))
      have hO6 := Lib.hid (own_fr hO.out hS6 (fun _ _ h => h))
      clear hL hD hF hO hS hS5 hS6
      by_cases hg : pGood b = true
      · have hpc := parse_good g6 b w6 HR6.out HL64.out hg
        have Hpc := Lib.hid hpc
        have h48 := (pGood_le hg).1
        have hpl : pLife b < 18446744073709551616 := getN_lt _
        have hpn : pNo b < 18446744073709551616 := getN_lt _
        have HG := Lib.hid hg
        clear hpc hg
        go_wp2_with fail
        refine Hpc.out.mono ?_
        rintro e w7 ⟨rfl, hf7⟩
        have hbk := hL6.out.blk.fr hf7 (fun h => h)
        have c9 := hbk.cell 9
        have q9 := hbk.frozen 9
        have hp7 := hbk.lt
        simp only [List.getElem?_toArray, List.getElem?_cons_zero, List.getElem?_cons_succ] at c9
        clear hbk
        have hRp : R p := hL6.out.rp
        have HUp : Hid (∀ W, W = w7.setCell ⟨p, 9, none⟩ (.int .u64 (max (s.ml : Int) (pLife b : Int))) → W.ownsRow w.heap.size 5 1 u4 s.out.length (bts s.out) ∧ LogAt R W p d lv rv { L with life := max s.ml (pLife b) } ∧ DiskOk RD W d S ∧ Fr (fun b => b = p) w W ∧ Row64 W g6 b) := by
          rintro W rfl
          have em : (max (s.ml : Int) (pLife b : Int)) = ((max s.ml (pLife b) : Nat) : Int) := by omega
          rw [em]
          have hf : Fr (fun b => b = p) w7 (w7.setCell ⟨p, 9, none⟩ (.int .u64 ((max s.ml (pLife b) : Nat) : Int))) := (Fr.refl (fun b => b = p) w7).setCell (p := ⟨p, 9, none⟩) (.inr rfl) _
          have hl7 := hL6.out.fr hf7 (fun _ _ h => h)
          have hm : max s.ml (pLife b) < 18446744073709551616 := by rw [Nat.max_def]; split <;> omega
          exact ⟨own_set (own_fr hO6.out hf7 (fun _ _ h => h)) hl7.blk (by decide), hl7.upd hf _ _ _ _ _ _ _ _ hl7.b1 hl7.b2 hl7.b3 hl7.b4 hl7.b5 hm hl7.b7 (hl7.blk.set_ 9 _), (hD6.out.new hf7).fr hf (fun x hx e => hap (by subst e; exact hx)), (hF6.out.trans (hf7.mono (fun _ _ h => h.elim))).trans hf, (Row64.fr HR6.out hf7 (fun h => h)).far (p := ⟨p, 9, none⟩) (by rintro rfl; exact absurd hp (by omega)) _⟩
        clear HR6 hO6 hD6 hF6 hf7
        have HN : Hid (¬ (s.op = true ∧ pGood b = true ∧ pNo b = no + k ∧ s.life ≤ pLife b) → L.str S (k + 1) = ⟨s.out, s.life, max s.ml (pLife b), false⟩) := by
          intro h
          rw [HSt.out]
          unfold St.step
          rw [if_neg h, if_pos HG.out]
        clear hL6
        by_cases hop : s.op = true
        · by_cases q1 : pNo b = no + k
          · have t1 : ((pNo b : Int) == (no : Int) + (k : Int)) = true := by rw [beq_iff_eq]; omega
            by_cases q2 : s.life ≤ pLife b
            · have t2 : decide (s.life ≤ pLife b) = true := by simpa using q2
              have HY : Hid (L.str S (k + 1) = ⟨s.out ++ pOwn b, pLife b, max s.ml (pLife b), ((pN b : Int) == 48)⟩) := by
                rw [Hid, HSt.out]
                unfold St.step
                rw [if_pos ⟨hop, HG.out, q1, q2⟩]
              have HOp := Lib.hid hop
              obtain ⟨hu1, hu2, hu3, hu4, hu5⟩ := HUp.out _ rfl
              have hz8 : w.heap.size ≤ (w7.setCell ⟨p, 9, none⟩ (.int .u64 (max (s.ml : Int) (pLife b : Int)))).heap.size := hu4.size
              have hol := pOwn_length h48 HL64.out
              have c1 : Hid ((bts (pOwn b)).length = pN b * 1) := by rw [Hid, bts_length, hol]; omega
              have c2 : Hid (∀ j u, (bts (pOwn b))[j]? = some u → (w7.setCell ⟨p, 9, none⟩ (.int .u64 (max (s.ml : Int) (pLife b : Int)))).cell? ((⟨g6, 16, none⟩ : Addr).add j) = some u) := by
                exact bytesIn_cells (bytesIn_part hu5 16 (pN b))
              have hrow : ∀ x, u4.ownBlock = some x → w.heap.size ≤ x := fun x hx => (hu1.lt x hx).1
              have HNx : Hid (∀ W, (w7.setCell ⟨p, 9, none⟩ (.int .u64 (max (s.ml : Int) (pLife b : Int)))).grownBy W u4.ownBlock → LogAt R W p d lv rv { L with life := max s.ml (pLife b) } ∧ DiskOk RD W d S ∧ Fr (fun b => b = p) w W) := by
                intro W hg
                have hf : Fr (fun x => some x = u4.ownBlock) (w7.setCell ⟨p, 9, none⟩ (.int .u64 (max (s.ml : Int) (pLife b : Int)))) W := (Fr.refl _ (w7.setCell ⟨p, 9, none⟩ (.int .u64 (max (s.ml : Int) (pLife b : Int))))).grown hg (fun k hk => .inr hk.symm)
                exact ⟨hu2.fr hf (fun x hx e => by have := hrow x e.symm; have := H.out.l; obtain ⟨_, _, hl⟩ := this; have := hl.lt x hx; omega), hu3.fr hf (fun x hx e => by have := hrow x e.symm; have := H.out.d.lt hx; omega), hu4.grown hg (fun x hx => .inl (hrow x hx))⟩
              have U1 := Lib.hid hu1
              have HOl := Lib.hid hol
              have hlen : s.out.length + pN b ≤ 3000000 := by omega
              have HR1 := Lib.hid hrow
              clear hu1 hu2 hu3 hu4 hu5 HUp HN hol q1 q2 hrow
              go_wp2_with (at_builtin; go_must (refine wpList_append_own_at _ rfl (.tmp 77) (.tmp 78) 40 rfl w.heap.size 5 i0 (.int .u8 0) 1 1 Tryz.underlying40 hi0 hz0 hz1 hz2 rfl (by decide) u4 s.out.length (bts s.out) rfl U1.out ⟨g6, 16, none⟩ (pN b) 48 (bts (pOwn b)) rfl c1.out c2.out (bts_one (pOwn b)) (by unfold maxLen; omega) (by omega) hz8 ?_); intro v' w9 hown9 hg9 hn9 hat9)
              have hN9 := HNx.out w9 hg9
              have HL9 := Lib.hid hN9.1
              have HD9 := Lib.hid hN9.2.1
              have HF9 := Lib.hid hN9.2.2
              have HO9 : Hid (w9.ownsRow w.heap.size 5 1 v' (s.out ++ pOwn b).length (bts (s.out ++ pOwn b))) := by
                rw [List.length_append, HOl.out, bts_append]
                exact hown9
              clear hN9 hown9 hg9 hn9 hat9 HNx
              go_wp2
              go_roundw
              case rel => exact ⟨k + 1, ⟨s.out ++ pOwn b, pLife b, max s.ml (pLife b), ((pN b : Int) == 48)⟩, by omega, HY, by go_num, rfl, rfl, HO9, HL9, HD9, HF9⟩
              case measure => simp [intOf]; omega
            · have t2 : decide (s.life ≤ pLife b) = false := by simpa using q2
              have HSt7 := Lib.hid (HN.out (fun h => q2 h.2.2.2))
              clear HN q1 q2
              go_wp2
              go_roundw
              case rel => exact ⟨k + 1, ⟨s.out, s.life, max s.ml (pLife b), false⟩, by omega, HSt7, by go_num, rfl, rfl, (HUp.out _ rfl).1, (HUp.out _ rfl).2.1, (HUp.out _ rfl).2.2.1, (HUp.out _ rfl).2.2.2.1⟩
              case measure => simp [intOf]; omega
          · have t1 : ((pNo b : Int) == (no : Int) + (k : Int)) = false := by rw [beq_eq_false_iff_ne]; omega
            have HSt7 := Lib.hid (HN.out (fun h => q1 h.2.2.1))
            clear HN q1
            go_wp2
            go_roundw
            case rel => exact ⟨k + 1, ⟨s.out, s.life, max s.ml (pLife b), false⟩, by omega, HSt7, by go_num, rfl, rfl, (HUp.out _ rfl).1, (HUp.out _ rfl).2.1, (HUp.out _ rfl).2.2.1, (HUp.out _ rfl).2.2.2.1⟩
            case measure => simp [intOf]; omega
        · have hop' : s.op = false := by simpa using hop
          have HSt7 := Lib.hid (HN.out (fun h => hop h.1))
          clear HN hop
          go_wp2
          go_roundw
          case rel => exact ⟨k + 1, ⟨s.out, s.life, max s.ml (pLife b), false⟩, by omega, HSt7, by go_num, rfl, rfl, (HUp.out _ rfl).1, (HUp.out _ rfl).2.1, (HUp.out _ rfl).2.2.1, (HUp.out _ rfl).2.2.2.1⟩
          case measure => simp [intOf]; omega
      · have hg' : pGood b = false := by simpa using hg
        have hpc := parse_bad g6 b w6 HR6.out HL64.out hg'
        have Hpc := Lib.hid hpc
        have hstep : s.step (no + k) b = ⟨s.out, s.life, s.ml, false⟩ := by
          unfold St.step
          rw [if_neg (fun h => hg h.2.1), if_neg hg]
        have Hstep := Lib.hid hstep
        clear hpc hstep hg hg'
        go_wp2_with fail
        refine Hpc.out.mono ?_
        rintro e w7 ⟨x, y, A, n, c, rfl, hf7⟩
        have hL7 := Lib.hid (hL6.out.fr hf7 (fun _ _ h => h))
        have hD7 := Lib.hid (hD6.out.new hf7)
        have hF7 := Lib.hid (hF6.out.trans (hf7.mono (fun _ _ h => h.elim)))
        have hO7 := Lib.hid (own_fr hO6.out hf7 (fun _ _ h => h))
        have HSt7 : Hid (L.str S (k + 1) = ⟨s.out, s.life, s.ml, false⟩) := HSt.out.trans Hstep.out
        clear hL6 hD6 hF6 hO6 hf7 HR6
        rcases hop : s.op with _ | _
        all_goals
          go_wp2
          go_roundw
          case rel => exact ⟨k + 1, ⟨s.out, s.life, s.ml, false⟩, by omega, HSt7, by go_num, rfl, rfl, hO7, hL7, hD7, hF7⟩
          case measure => simp [intOf]; omega
    · obtain rfl : k = r := by omega
      have hbk := hL.out.blk
      have c7 := hbk.cell 7
      have hpz := hbk.lt
      simp only [List.getElem?_toArray, List.getElem?_cons_zero, List.getElem?_cons_succ] at c7
      clear hbk
      obtain ⟨q, hq⟩ : ∃ q, L.fin % 48 = q := ⟨_, rfl⟩
      have eq1 : (L.fin : Int) % 48 = (q : Int) := by omega
      obtain ⟨m, hm⟩ : ∃ m, min q s.out.length = m := ⟨_, rfl⟩
      have eq2 : min (q : Int) (s.out.length : Int) = (m : Int) := by omega
      have hmn : m ≤ s.out.length := by omega
      have hres : L.bytes S = s.out.drop m := by
        unfold LS.bytes
        rw [HrL.out, hs.out, hq, ← hm]
        rcases Nat.le_total q s.out.length with h | h
        · rw [Nat.min_eq_left h]
        · rw [Nat.min_eq_right h, List.drop_length, List.drop_eq_nil_of_le h]
      have hfin2 : L.streamed S = { L with life := s.ml } := by
        unfold LS.streamed
        rw [HrL.out, hs.out]
      have HRes := Lib.hid hres
      have HFin := Lib.hid hfin2
      have HW : Hid (WalIn wr p d (L.streamed S) S R RD) := by
        rw [hfin2]
        exact ⟨⟨lv, rv, hL.out⟩, hD.out, H.out.apart, H.out.fits⟩
      clear hq hm hres hfin2
      have hO2 := hO.out.2
      rcases hO2 with ⟨rfl, hx⟩ | ⟨g, cap, cur, rfl, hg, hh, hr⟩
      · have h0 : s.out = [] := List.eq_nil_of_length_eq_zero hx
        have hm0 : m = 0 := by omega
        have HH : Hid (L.bytes S = []) := by
          rw [Hid, HRes.out, h0]
          simp
        have eq3 : min (q : Int) 0 = 0 := by omega
        clear eq2 h0 hx hmn hO HRes hm0
        go_wp2
        go_ret2
        exact ⟨none, 0, by rw [HH.out]; rfl, by rw [HH.out]; intro h; simp at h, by rw [HH.out]; simp, fun a ha => (by cases ha), HW.out, hF.out⟩
      · obtain ⟨hr1, hr2, hr3, hr4⟩ := hr
        have hcells : Hid (∀ j x, (s.out.drop m)[j]? = some x → wr.cell? ⟨g, m + j, none⟩ = some (.int .u8 x.toNat)) := by
          intro j x hx
          rw [List.getElem?_drop] at hx
          have hbx : (bts s.out)[m + j]? = some (.int .u8 x.toNat) := by rw [bts_get, hx]; rfl
          rw [← hr4, List.getElem?_take] at hbx
          split at hbx
          · rw [Blk.cell hh (m + j), ← Array.getElem?_toList]; exact hbx
          · cases hbx
        have hlr : (s.out.drop m).length = s.out.length - m := List.length_drop
        have HLr := Lib.hid hlr
        have hgl : g < wr.heap.size := Blk.lt hh
        clear hlr hr3 hr4 hh
        by_cases hcap : cap = m
        · subst hcap
          have hz : s.out.length - cap = 0 := by omega
          have HZ : Hid ((L.bytes S).length = 0) := by rw [Hid, HRes.out, HLr.out, hz]
          go_wp2
          go_ret2
          refine ⟨some ⟨g, 0, none⟩, 0, ?_, ?_, by rw [HZ.out]; exact Nat.le_refl _, ?_, HW.out, hF.out⟩
          · rw [HZ.out]; rfl
          · intro h; rw [HZ.out] at h; cases h
          · rintro a ha
            injection ha with ha
            subst ha
            exact ⟨hg, hgl⟩
        · have hlt2 : m < cap := by omega
          clear hcap hr2
          go_wp2
          go_ret2
          refine ⟨some ⟨g, m, none⟩, cap - m, ?_, ?_, by rw [HRes.out, HLr.out]; omega, ?_, HW.out, hF.out⟩
          · rw [HRes.out, HLr.out]; rfl
          · rw [HRes.out]
            intro _
            exact ⟨g, m, rfl, hcells.out⟩
          · rintro a ha
            injection ha with ha
            subst ha
            exact ⟨hg, hgl⟩
end Go.Proofs.YtfapklpcgcgahaaGreatDoor
