/-
  CopyLaw, RoundRegion, Disk9, in one text.
-/
import Derived.Test.YtccmmnacejdeoaaGreatDoorMg01
import Derived.Laws.CopyOwn
import Derived.WalkKit
import Derived.OrdersIn
import Derived.OrdersHeld
import Derived.Test.YtccmmnacejdeoaaGreatDoorMg03
import Derived.Deep.RegionLaw
/-
  The builtin copy into a row, with the exact frame: only that row has changed.
-/
namespace Go.Proofs.YtccmmnacejdeoaaGreatDoor
set_option linter.unusedSimpArgs false
set_option linter.unusedVariables false
open Go.RowKit

theorem grown_set (w : World) (a : Addr) (v : Value) : w.grownBy (w.setCell a v) (some a.block) :=
  ⟨rfl, rfl, rfl, by simp [World.setCell], fun k _ hk => Below.heap_setCell _ _ _ k (fun e => hk (by rw [e]))⟩
theorem grown_setRow (w : World) (g : Nat) (cs : Array Value) : w.grownBy (w.setRow g cs) (some g) :=
  ⟨rfl, rfl, rfl, by simp, fun k _ hk => setRow_other w g k cs (fun e => hk (by rw [e]))⟩

theorem wp_copy_exact {P : Program} {o : Oper} {a : Act} {w : World} {K : Act → World → Prop} {Q : Exit → Act → World → Prop} (d s : Operand) (dT sT : TypeId)
    (ho : o.op = .call { callee := .builtin .copy, args := #[d, s], argTypes := #[dT, sT] }) (elem : TypeId) (hu : P.underlying dT = some (.slice elem)) (hsz : (P.info? elem).map (·.size) = some 1)
    (dp sp : Option Addr) (dLen dCap sLen sCap : Nat) (hd : a.eval d = .slice dp dLen dCap) (hs : a.eval s = .slice sp sLen sCap)
    (g off : Nat) (cur : List Value) (t : TypeId) (hg : w.heap[g]? = some (.cells cur.toArray t (0, 0))) (cs : List Value) (hn : cs.length = Nat.min sLen dLen)
    (hpos : 0 < cs.length → dp = some ⟨g, off, none⟩ ∧ ∃ ad, sp = some ad ∧ ∀ j v, cs[j]? = some v → w.cell? (ad.add j) = some v)
    (hfit : off + cs.length ≤ cur.length) (h1 : ∀ v ∈ cs, v.oneCell' = true)
    (h : ∀ w', Hid (w'.heap[g]? = some (.cells (splice cur off cs).toArray t (0, 0))) → w.grownBy w' (some g) → K (a.put o.dst (goInt cs.length)) w') :
    Oper.wp P o a w K Q := by
  by_cases h0 : cs.length = 0
  · obtain rfl : cs = [] := List.eq_nil_of_length_eq_zero h0
    have hrun := run_copy_none (P := P) w dT sT o.type elem dp sp dLen dCap sLen sCap hu hsz (by simpa using hn.symm)
    unfold Oper.wp
    simp [execOp, ho, resolve, invoke, builtin, hd, hs, hrun, Result.andThen]
    exact h w (show _ = _ by simpa [splice] using hg) ⟨rfl, rfl, rfl, Nat.le_refl _, fun _ _ _ => rfl⟩
  · obtain ⟨rfl, ad, rfl, hsrc⟩ := hpos (by omega)
    have hrun := run_copy_row (P := P) w dT sT o.type elem g off dLen dCap ad sLen sCap cur.toArray t cs hu hsz hg hn hsrc (by simpa using hfit) h1
    unfold Oper.wp
    simp [execOp, ho, resolve, invoke, builtin, hd, hs, hrun, Result.andThen]
    exact h _ (show _ = _ by simpa [splice] using setRow_heap w g _ _ t _ hg) (grown_setRow w g _)

theorem wpList_copy_exact {P : Program} {w : World} {ops : Array Oper} {rest : List Oper} {o : Oper} {a : Act} {Q : Exit → Act → World → Prop} (hgd : o.guard = none) (d s : Operand) (dT sT : TypeId)
    (ho : o.op = .call { callee := .builtin .copy, args := #[d, s], argTypes := #[dT, sT] }) (elem : TypeId) (hu : P.underlying dT = some (.slice elem)) (hsz : (P.info? elem).map (·.size) = some 1)
    (dp sp : Option Addr) (dLen dCap sLen sCap : Nat) (hd : a.eval d = .slice dp dLen dCap) (hs : a.eval s = .slice sp sLen sCap)
    (g off : Nat) (cur : List Value) (t : TypeId) (hg : w.heap[g]? = some (.cells cur.toArray t (0, 0))) (cs : List Value) (hn : cs.length = Nat.min sLen dLen)
    (hpos : 0 < cs.length → dp = some ⟨g, off, none⟩ ∧ ∃ ad, sp = some ad ∧ ∀ j v, cs[j]? = some v → w.cell? (ad.add j) = some v)
    (hfit : off + cs.length ≤ cur.length) (h1 : ∀ v ∈ cs, v.oneCell' = true)
    (h : ∀ w', Hid (w'.heap[g]? = some (.cells (splice cur off cs).toArray t (0, 0))) → w.grownBy w' (some g) → wpList P ops Q rest (a.put o.dst (goInt cs.length)) w') :
    wpList P ops Q (o :: rest) a w :=
  wpList_plain hgd fun _ hK => wp_copy_exact d s dT sT ho elem hu hsz dp sp dLen dCap sLen sCap hd hs g off cur t hg cs hn hpos hfit h1 fun w' h2 h3 => hK _ _ (h w' h2 h3)

theorem step_copy_exact {P : Program} {ops : Array Oper} {o : Oper} {a : Act} {w : World} {K : Act → World → Prop} {Q : Exit → Act → World → Prop} {E : Prop} (hgd : o.guard = none) (d s : Operand) (dT sT : TypeId)
    (ho : o.op = .call { callee := .builtin .copy, args := #[d, s], argTypes := #[dT, sT] }) (elem : TypeId) (hu : P.underlying dT = some (.slice elem)) (hsz : (P.info? elem).map (·.size) = some 1)
    (dp sp : Option Addr) (dLen dCap sLen sCap : Nat) (hd : a.eval d = .slice dp dLen dCap) (hs : a.eval s = .slice sp sLen sCap)
    (g off : Nat) (cur : List Value) (t : TypeId) (hg : w.heap[g]? = some (.cells cur.toArray t (0, 0))) (cs : List Value) (hn : cs.length = Nat.min sLen dLen)
    (hpos : 0 < cs.length → dp = some ⟨g, off, none⟩ ∧ ∃ ad, sp = some ad ∧ ∀ j v, cs[j]? = some v → w.cell? (ad.add j) = some v)
    (hfit : off + cs.length ≤ cur.length) (h1 : ∀ v ∈ cs, v.oneCell' = true)
    (h : ∀ w', Hid (w'.heap[g]? = some (.cells (splice cur off cs).toArray t (0, 0))) → w.grownBy w' (some g) → K (a.put o.dst (goInt cs.length)) w') :
    if Region.wanted o (yielded ops a.tmps) = true then Oper.wp P o a w K Q else E := by
  have hw : Region.wanted o (yielded ops a.tmps) = true := by simp [Region.wanted, hgd]
  rw [if_pos hw]
  exact wp_copy_exact d s dT sT ho elem hu hsz dp sp dLen dCap sLen sCap hd hs g off cur t hg cs hn hpos hfit h1 h
end Go.Proofs.YtccmmnacejdeoaaGreatDoor

/-
  A region that draws its order, inside a round of a loop over a function: where no operation of it calls, what holds of it plainly holds there.
-/
namespace Go.Proofs.YtccmmnacejdeoaaGreatDoor
set_option linter.unusedSimpArgs false
set_option linter.unusedVariables false

/-- An operation that calls nothing and defers nothing. -/
def plainOp (o : Oper) : Bool :=
  match o.op with
  | .load .. | .store .. | .fieldAddr .. | .indexAddr .. | .move .. | .assign .. | .pick .. | .binOp .. | .unOp .. | .convert .. | .field .. | .index .. | .extract .. | .nilCheck .. | .alloc .. | .box .. | .build .. => true
  | _ => false

theorem noCall_v {P : Program} {s : Sem Value} {w : World} {n : Next} {w' : World} (h : (do pure (Next.value (← s)) : Sem Next).run P w = .ok n w') : ∃ v, n = .value v := by
  simp only [Sem.run_bind, Sem.run_pure] at h
  cases hs : s.run P w with
  | ok v w1 => rw [hs] at h; simp only [Result.andThen, Result.ok.injEq] at h; exact ⟨v, h.1.symm⟩
  | halt x w1 => rw [hs] at h; simp only [Result.andThen] at h; cases h
theorem noCall_u {P : Program} {s : Sem Unit} {w : World} {n : Next} {w' : World} (h : (do s; pure Next.skip : Sem Next).run P w = .ok n w') : n = .skip := by
  simp only [Sem.run_bind, Sem.run_pure] at h
  cases hs : s.run P w with
  | ok v w1 => rw [hs] at h; simp only [Result.andThen, Result.ok.injEq] at h; exact h.1.symm
  | halt x w1 => rw [hs] at h; simp only [Result.andThen] at h; cases h

theorem plain_run {P : Program} {o : Oper} (hp : plainOp o = true) {ρ : Operand → Value} {w : World} (x : Next) (w' : World) (h : (execOp ρ o).run P w = .ok x w') : (∃ v, x = .value v) ∨ x = .skip := by
  unfold execOp at h
  unfold plainOp at hp
  cases ho : o.op <;> rw [ho] at h hp <;> simp only [Bool.false_eq_true] at hp <;> dsimp only at h
  case move | assign => simp only [Sem.run_pure, Result.ok.injEq] at h; exact .inl ⟨_, h.1.symm⟩
  case pick c a b => exact .inl (noCall_v (s := do pure (if ← asBool (ρ c) then ρ a else ρ b)) (by simpa [Sem.run_bind, Sem.run_pure] using h))
  case store => exact .inr (noCall_u h)
  case nilCheck y =>
    split at h
    case h_1 | h_2 | h_3 => simp [runtimePanic, go_sem] at h
    · split at h
      · simp [runtimePanic, go_sem] at h
      · simp only [Sem.run_bind] at h
        cases h1 : Sem.run P program w with
        | halt z w1 => rw [h1] at h; simp only [Result.andThen] at h; cases h
        | ok pr w1 =>
          rw [h1] at h
          simp only [Result.andThen] at h
          split at h
          · rename_i b w2 hb
            split at h
            · simp [unsupported, Sem.run_bind, Sem.run, Result.andThen] at h
            · simp only [Sem.run_pure, Result.ok.injEq] at h; exact .inl ⟨_, h.1.symm⟩
          · cases h
      · simp only [Sem.run_pure, Result.ok.injEq] at h; exact .inl ⟨_, h.1.symm⟩
    · simp only [Sem.run_pure, Result.ok.injEq] at h; exact .inl ⟨_, h.1.symm⟩
  all_goals exact .inl (noCall_v h)

theorem wpOpIn_of_wpOp {F : Fence} {n : Nat} {P : Program} {ops : Array Oper} {Q : Exit → Act → World → Prop} (hp : ops.toList.all plainOp = true) (hQ : ∀ a w, ¬ Q .outgrown a w) {i : Nat} {K K' : Act → World → Prop} (hK : ∀ a w, K a w → K' a w) {a : Act} {w : World}
    (h : wpOp P ops Q i K a w) : wpOpIn F n P ops Q i K' a w := by
  unfold wpOp at h
  unfold wpOpIn
  cases ho : ops[i]? with
  | none => rw [ho] at h; exact hK _ _ h
  | some o =>
    rw [ho] at h
    dsimp only at h ⊢
    have hpo : plainOp o = true := by
      rw [List.all_eq_true] at hp
      exact hp o (by rw [Array.mem_toList_iff]; exact Array.mem_of_getElem? ho)
    have hcall : ∀ c, o.op ≠ .call c := by intro c e; unfold plainOp at hpo; rw [e] at hpo; cases hpo
    have hdef : ∀ c, o.op ≠ .defer c := by intro c e; unfold plainOp at hpo; rw [e] at hpo; cases hpo
    have hab : ∀ f, o.about P w a.eval = some f → F.fn f := by
      intro f hf
      unfold Oper.about at hf
      cases ho' : o.op <;> rw [ho'] at hf <;> first | cases hf | exact absurd ho' (hcall _)
    split
    · rename_i hw
      rw [if_pos hw] at h
      refine ⟨hab, ?_⟩
      rw [Oper.semAt_eq _ _ _ hdef]
      have h := h.resolve_right (fun ⟨_, a0, w0, hq⟩ => hQ a0 w0 hq)
      unfold Oper.wp at h
      have hr := fun x w' e => plain_run (P := P) hpo (ρ := a.eval) (w := w) x w' e
      generalize (execOp a.eval o).run P w = r at *
      cases r with
      | ok x w' =>
        rcases hr x w' rfl with ⟨v, rfl⟩ | rfl
        · exact hK _ _ h
        · exact hK _ _ h
      | halt x w' => cases x <;> simp only [Oper.upon] at h ⊢ <;> exact h
    · rename_i hw
      rw [if_neg hw] at h
      exact ⟨hab, hK _ _ h⟩

theorem wpAnyIn_of_held {F : Fence} {n : Nat} {P : Program} {md : Region.Mode} {ops : Array Oper} {Q : Exit → Act → World → Prop} {S : World → Prop} (hp : ops.toList.all plainOp = true) (hQ : ∀ a w, ¬ Q .outgrown a w) :
    ∀ (fuel : Nat) (listed : Array Bool) (a : Act) (w : World), wpAnyH P md ops Q S fuel listed a w → wpAnyIn F n P md ops Q fuel listed a w
  | 0, _, _, _, h => h
  | fuel + 1, _, _, _, h => ⟨h.1, fun i hi => wpOpIn_of_wpOp hp hQ (fun a' w' h' => wpAnyIn_of_held hp hQ fuel _ a' w' h'.2) (h.2 i hi)⟩

theorem wpIn_region_held {F : Fence} {n : Nat} {P : Program} {id : Nat} {ops : Array Oper} {Q : Exit → Act → World → Prop} {a : Act} {w : World} (S : World → Prop) (hm : P.follows .mixedOrders = true) (hp : ops.toList.all plainOp = true) (hQ : ∀ a w, ¬ Q .outgrown a w)
    (h : wpAnyH P .any ops Q S ops.size (Array.replicate ops.size false) a w.drew) : (Code.region id ops true).wpIn F n P Q a w :=
  wpIn_region_any hm (wpAnyIn_of_held hp hQ _ _ _ _ h)
/-- The last operation of a region: a store. -/
theorem wpAnyH_last {P : Program} {md : Region.Mode} {ops : Array Oper} {Q : Exit → Act → World → Prop} {S : World → Prop} {i : Nat} {o : Oper} {fuel : Nat} {listed : Array Bool} {a : Act} {w : World} (w' : World) (hi : ops[i]? = some o)
    (hr : Region.ready md ops listed = [i]) (hd : Region.ready md ops (listed.setIfInBounds i true) = []) (hw : Region.wanted o (yielded ops a.tmps) = true) (hrun : (execOp a.eval o).run P w = .ok .skip w') (hS : S w')
    (h : Q .normal (a.put o.dst undef) w') : wpAnyH P md ops Q S (fuel + 1) listed a w := by
  refine wpAnyH_all hr (by simp) ?_
  intro j hj
  simp only [List.mem_singleton] at hj
  subst hj
  unfold wpOp
  rw [hi]
  dsimp only
  rw [if_pos hw]
  refine .inl ?_
  unfold Oper.wp
  rw [hrun]
  exact ⟨hS, wpAnyH_done hd h fuel⟩

/-- What comes to a normal end needs no word on panics. -/
def OnlyNormal (K : Act → World → Prop) : Exit → Act → World → Prop
  | .normal, a, w => K a w
  | _, _, _ => False
theorem wp_quietly {P : Program} {c : Code} {K : Act → World → Prop} {Q : Exit → Act → World → Prop} {a : Act} {w : World} (h : c.wp P (OnlyNormal K) a w) : c.wp P (Exit.then K Q) a w :=
  wp_mono h (by intro e a w h; cases e <;> first | exact h | exact h.elim)

/-- A call within a region, where nothing else may come up. -/
theorem wpAnyH_call {P : Program} {md : Region.Mode} {ops : Array Oper} {Q : Exit → Act → World → Prop} {S : World → Prop} {i : Nat} {o : Oper} {fuel : Nat} {listed : Array Bool} {a : Act} {w : World} {f : FuncId} {args : Array Value} {R : Ending → World → Prop} (hi : ops[i]? = some o)
    (hr : Region.ready md ops listed = [i]) (hw : Region.wanted o (yielded ops a.tmps) = true) (hrun : (execOp a.eval o).run P w = .ok (.enter f args) w) (hcall : Calls P f args w R)
    (h : ∀ e w', R e w' → ∃ v, e = .returned v ∧ S w' ∧ wpAnyH P md ops Q S fuel (listed.setIfInBounds i true) (a.put o.dst v) w') : wpAnyH P md ops Q S (fuel + 1) listed a w := by
  refine wpAnyH_all hr (by simp) ?_
  intro j hj
  simp only [List.mem_singleton] at hj
  subst hj
  unfold wpOp
  rw [hi]
  dsimp only
  rw [if_pos hw]
  refine .inl ?_
  unfold Oper.wp
  rw [hrun]
  refine hcall.mono ?_
  intro e w' hR
  obtain ⟨v, rfl, hS, h2⟩ := h e w' hR
  exact ⟨hS, h2⟩

/-- The beginning of a region that draws, where it comes to a normal end: what is held of all worlds on the way is S. -/
theorem wp_region_quietly {P : Program} {id : Nat} {ops : Array Oper} {K : Act → World → Prop} {Q : Exit → Act → World → Prop} {a : Act} {w : World} (S : World → Prop) (hm : P.follows .mixedOrders = true)
    (h : wpAnyH P .any ops (OnlyNormal K) S ops.size (Array.replicate ops.size false) a w.drew) : (Code.region id ops true).wp P (Exit.then K Q) a w :=
  wp_quietly (wp_region_held hm h)

/-- An operation taken first, the frame behind it spelled out. -/
theorem wpAnyH_op {P : Program} {md : Region.Mode} {ops : Array Oper} {Q : Exit → Act → World → Prop} {S : World → Prop} {i : Nat} {oi : Oper} (d : Option Tmp) {v : Value} {fuel : Nat} {listed : Array Bool} {a a' : Act} {w : World} (hi : ops[i]? = some oi) (hd : oi.dst = d)
    (hs : Region.noSelect ops = true) (hf : Region.free md ops listed i = true) (hr : (Region.ready md ops listed).contains i = true)
    (hQ : ∀ c a w, Q (.panic c) (a.put oi.dst v) w → Q (.panic c) a w) (hw : Region.wanted oi (yielded ops a.tmps) = true) (hy : ∀ w, S w → (execOp a.eval oi).run P w = .ok (.value v) w) (ha : a.put d v = a') (hS : S w)
    (h : wpAnyH P md ops Q S fuel (listed.setIfInBounds i true) a' w) : wpAnyH P md ops Q S (fuel + 1) listed a w :=
  wpAnyH_take hi hs hf hr hQ (.inl ⟨hw, hy⟩) hS (by rw [hd, ha]; exact h)

theorem wpAnyH_at {P : Program} {md : Region.Mode} {ops : Array Oper} {Q : Exit → Act → World → Prop} {S : World → Prop} {oi : Oper} (d : Option Tmp) {v : Value} {fuel : Nat} {listed : Array Bool} {a a' : Act} {w : World} (hd : oi.dst = d) (ha : a.put d v = a')
    (h : wpAnyH P md ops Q S fuel listed a' w) : wpAnyH P md ops Q S fuel listed (a.put oi.dst v) w := by rw [hd, ha]; exact h


end Go.Proofs.YtccmmnacejdeoaaGreatDoor

/-
  What Crash does.
-/
namespace Go.Proofs.YtccmmnacejdeoaaGreatDoor
set_option linter.unusedSimpArgs false
set_option linter.unusedVariables false
open Go.RowKit Go.Shelf
attribute [local go_sem] Oper.semAt_some

theorem exists_sub {β : Type} {P : β → Prop} (l : List β) (h : ∀ x ∈ l, P x) : ∃ l' : List { x // P x }, l'.map (·.1) = l := by
  induction l with
  | nil => exact ⟨[], rfl⟩
  | cons x l ih =>
    obtain ⟨l', e⟩ := ih (fun y hy => h y (List.mem_cons_of_mem _ hy))
    exact ⟨⟨x, h x (List.mem_cons_self ..)⟩ :: l', by simp [e]⟩

/-- The ints of a slice that came in, none of them in a block of R. -/
def IntsOut (R : Nat → Prop) (w : World) (A : Option Addr) (keep : List Int) : Prop :=
  (∀ x ∈ keep, (Lit.int .i64 x).wf = true) ∧ (0 < keep.length → ∃ kb ko, A = some ⟨kb, ko, none⟩ ∧ ¬ R kb ∧ ∀ j x, keep[j]? = some x → w.cell? ⟨kb, ko + j, none⟩ = some (.int .i64 x))
theorem IntsOut.nil (R : Nat → Prop) (w : World) (A : Option Addr) : IntsOut R w A [] := ⟨by simp, by simp⟩
theorem IntsOut.fr {R R' F : Nat → Prop} {w w' : World} {A : Option Addr} {keep : List Int} (h : IntsOut R w A keep) (hf : Fr F w w') (hd : ∀ b, b < w.heap.size → ¬ R b → ¬ F b ∧ ¬ R' b) : IntsOut R' w' A keep :=
  ⟨h.1, fun h0 => by
    obtain ⟨kb, ko, e, hn, hc⟩ := h.2 h0
    have hlt : kb < w.heap.size := by
      obtain ⟨x, hx⟩ : ∃ x, keep[0]? = some x := ⟨keep[0], List.getElem?_eq_getElem h0⟩
      exact cell_lt (hc 0 x hx)
    exact ⟨kb, ko, e, (hd kb hlt hn).2, fun j x hx => (hf.cell (p := ⟨kb, ko + j, none⟩) hlt (hd kb hlt hn).1).trans (hc j x hx)⟩⟩

def DS.crash (S : DS) (keep : List Int) : DS := { S with now := setAll S.last (chosen keep S.waits), last := setAll S.last (chosen keep S.waits), waits := [], fuse := -1, dead := false }

theorem mem_chosen {β : Type} {keep : List Int} {l : List β} {x : β} (h : x ∈ chosen keep l) : x ∈ l := by
  unfold chosen at h
  obtain ⟨y, hy, rfl⟩ := List.mem_map.1 h
  have := (List.mem_filter.1 hy).1
  exact List.fst_mem_of_mem_zipIdx this
theorem Waits.pick {R : Nat → Prop} {w : World} {n : Nat} {ws : List (Nat × Value)} {xs : List (Nat × List UInt8)} (h : Waits R w n ws xs) (keep : List Int) : Waits R w n (chosen keep ws) (chosen keep xs) := by
  have e1 : (ws.zip xs).map Prod.fst = ws := List.map_fst_zip (by rw [h.1]; exact Nat.le_refl _)
  have e2 : (ws.zip xs).map Prod.snd = xs := List.map_snd_zip (by rw [h.1]; exact Nat.le_refl _)
  have key : ∀ y ∈ ws.zip xs, y.1.1 = y.2.1 ∧ y.1.1 < n ∧ Sec R w y.1.2 y.2.2 := by
    intro y hy
    obtain ⟨i, hi, rfl⟩ := List.mem_iff_getElem.1 hy
    rw [List.getElem_zip]
    exact h.2 i _ _ (List.getElem?_eq_getElem _) (List.getElem?_eq_getElem _)
  have e3 : chosen keep ws = (chosen keep (ws.zip xs)).map Prod.fst := by rw [← chosen_map, e1]
  have e4 : chosen keep xs = (chosen keep (ws.zip xs)).map Prod.snd := by rw [← chosen_map, e2]
  rw [e3, e4]
  refine ⟨by simp, fun i x y hx hy => ?_⟩
  rw [List.getElem?_map] at hx hy
  obtain ⟨z, hz, rfl⟩ := Option.map_eq_some_iff.1 hx
  rw [hz] at hy
  injection hy with hy
  subst hy
  exact key z (mem_chosen (List.mem_of_getElem? hz))

/-- The frame of Crash in a round: the boxed write in slot 4. -/
def crashAct (w : World) (p : Nat) (A : Option Addr) (n c : Nat) (Bx : Nat) (x : Value) : Act :=
  { tmps := #[.pointer (some ⟨p, 0, none⟩), .slice A n c, .pointer (some ⟨w.heap.size, 0, none⟩), undef, .pointer (some ⟨Bx, 0, none⟩), .pointer (some ⟨p, 0, none⟩), .slice A n c,
      .func (.func 62) #[] #[.pointer (some ⟨w.heap.size + 1 + 1, 0, none⟩), .pointer (some ⟨w.heap.size + 1, 0, none⟩)],
      x, undef, undef, undef, undef, undef, undef, undef, undef, undef, undef, undef, undef, undef, undef, undef,
      undef, undef, undef, undef, undef, undef, undef, undef, undef, undef, undef, undef], defers := [] }

theorem blk_grown {g : Nat} {t : TypeId} {cs : Array Value} {w w' : World} {row : Option Nat} (h : Blk w g t cs) (hg : w.grownBy w' row) (hr : ∀ r, row = some r → ∃ o : Obj, w.heap[r]? = some o ∧ o.isCells = false) : Blk w' g t cs :=
  h.grown hg (fun e => by
    obtain ⟨o, ho, hc⟩ := hr g e.symm
    unfold Blk at h
    rw [h] at ho
    injection ho with ho
    subst ho
    cases hc)

section
variable {R : Nat → Prop} {w : World} {p : Nat} {S : DS}

set_option maxRecDepth 100000 in
set_option maxHeartbeats 400000 in
theorem Crash_anyD (A : Option Addr) (c : Nat) (keep : List Int) (h : DiskOk R w p S) (hkp : IntsOut R w A keep) (hreach : keep.length * 8 ≤ 140737488351232) (hwl : S.waits.length < 4000000000) :
    Calls Tryz.prog 17 #[.pointer (some ⟨p, 0, none⟩), .slice A keep.length c] w fun e w' => e = .returned (.tuple #[]) ∧ DiskOk R w' p (S.crash keep) ∧ FrD R w w' := by
  obtain ⟨nb, lb, nv, lv, wv, ws, h⟩ := h
  have H := Lib.hid h
  have HKp := Lib.hid hkp
  have HWl : Hid (ws.length < 4000000000) := by show _ < _; rw [h.waits.1]; exact hwl
  have hpz : p < w.heap.size := h.blk.lt
  have hlz : lb < w.heap.size := h.blast.lt
  have hpl : ¬ p = lb := Blk.ne_ h.blk h.blast (by decide)
  have hwf : ∀ x ∈ ws, x.1 < S.now.length ∧ ∃ A m c, x.2 = .slice A m c := by
    intro x hx
    obtain ⟨i, hi, rfl⟩ := List.mem_iff_getElem.1 hx
    have := h.waits.2 i ws[i] _ (List.getElem?_eq_getElem hi) (List.getElem?_eq_getElem (by rw [← h.waits.1]; exact hi))
    exact ⟨this.2.1, this.2.2.form⟩
  obtain ⟨wsA, hwsA⟩ := exists_sub ws hwf
  have HwsA := Lib.hid hwsA
  clear h hkp hwl hwf hwsA
  refine (callsIn_wide (n := 6)).1 ?_
  refine callsIn_of_wp_marks Tryz.func17 rfl trivial ?_ rfl
  simp only [Tryz.ntmps17, List.size_toArray, List.length_cons, List.length_nil, Nat.reduceAdd, Nat.reduceSub, Array.replicate_succ, Array.replicate_zero, List.push_toArray, List.append_toArray, List.nil_append, List.cons_append]
  refine wpIn_wide.2 ?_
  go_wp2_with (go_at_call 36; refine (callsIn_wide.1 (kept_in Fence.wide 3 trivial rfl _ _ _ _ _ ⟨_, rfl⟩)).mono ?_; rintro e w' ⟨rfl, rfl⟩)
  obtain ⟨W0, hW0⟩ : ∃ W0, ((w.alloc (.cells #[.pointer (some ⟨p, 0, none⟩)] 29)).alloc (.cells #[.pointer (some ⟨p, 0, none⟩)] 29)).alloc (.cells #[.slice A keep.length c] 55) = W0 := ⟨_, rfl⟩
  have hz0 : W0.heap.size = w.heap.size + 3 := by subst hW0; simp
  have b0 : Blk W0 w.heap.size 29 #[.pointer (some ⟨p, 0, none⟩)] := by subst hW0; exact ((Blk.new w _ _).alloc _).alloc _
  have b1 : Blk W0 (w.heap.size + 1) 29 #[.pointer (some ⟨p, 0, none⟩)] := by
    subst hW0
    have := Blk.new (w.alloc (.cells #[.pointer (some ⟨p, 0, none⟩)] 29)) 29 #[.pointer (some ⟨p, 0, none⟩)]
    rw [World.size_alloc] at this
    exact this.alloc _
  have b2 : Blk W0 (w.heap.size + 1 + 1) 55 #[.slice A keep.length c] := by
    subst hW0
    have := Blk.new ((w.alloc (.cells #[.pointer (some ⟨p, 0, none⟩)] 29)).alloc (.cells #[.pointer (some ⟨p, 0, none⟩)] 29)) 55 #[.slice A keep.length c]
    rwa [World.size_alloc, World.size_alloc] at this
  have hf0 : Fr Nob w W0 := by subst hW0; exact (((Fr.refl _ w).alloc _).alloc _).alloc _
  rw [hW0]
  clear hW0
  have hstops : SeqStopsK Fence.wide 5 Tryz.prog 62 #[.pointer (some ⟨w.heap.size + 1 + 1, 0, none⟩), .pointer (some ⟨w.heap.size + 1, 0, none⟩)] (encK (n := S.now.length)) (KK lb) (fun ys => ys = chosen keep wsA) (fun pre => pre <+: chosen keep wsA) wsA.length W0 := by
    intro l J Jx W hW hJ hJx hY h0
    have hfW : Fr Nob w W := hf0.trans (Fr.of_below hW)
    have hDW := H.out.fr hfW (fun _ _ h => h)
    have hl : wsA.length = ws.length := by rw [← HwsA.out, List.length_map]
    have hsz := hW.size
    refine kept1_in Fence.wide 5 trivial rfl (by decide) l (w.heap.size + 1 + 1) (w.heap.size + 1) p lb S.now.length A c keep wv wsA J Jx hY W hJ (by omega)
      ((b2.fr (Fr.of_below hW) (fun h => h)).cell 0) (by omega) (by omega) ((b1.fr (Fr.of_below hW) (fun h => h)).cell 0) (by omega) (by omega)
      hDW.cells.2.2.1 hpl (by omega) hreach (by rw [hl]; exact HWl.out) ⟨HKp.out.1, fun hk => ?_⟩ (by rw [hl, HwsA.out]; exact hDW.own)
      (fun g hg e => Blk.own_ne H.out.blast H.out.own (by decide) (by rw [hg, e])) h0
    obtain ⟨kb, ko, e, hn, hc⟩ := HKp.out.2 hk
    refine ⟨kb, ko, e, fun e => hn (by rw [e]; exact H.out.rl), fun j x hx => ?_⟩
    exact (hfW.cell (p := ⟨kb, ko + j, none⟩) (cell_lt (hc j x hx)) (fun h => h)).trans (hc j x hx)
  have HSt := Lib.hid hstops
  clear hstops
  refine (wpIn_wide (n := 6)).1 ?_
  refine wpIn_rangeFunc_ownH (F := Fence.wide) rfl (by decide) (gf := 62) (lb := #[.pointer (some ⟨w.heap.size + 1 + 1, 0, none⟩), .pointer (some ⟨w.heap.size + 1, 0, none⟩)]) rfl trivial (enters_of Tryz.func62 (by kernel_rfl) rfl)
    HSt.out (fun h k => h.trans k) (fun W l o o' _ hl h1 h2 => KK.putObj o' hl h1 h2) (Below.refl _ _) (fun _ => rfl)
    (fun pre W => Hid (Fr (fun b => b = lb) w W) ∧ Hid (Blk W lb 38 (setAll lv (pre.map (·.1))).toArray) ∧ Hid (Blk W w.heap.size 29 #[.pointer (some ⟨p, 0, none⟩)]))
    (fun _ _ _ => False)
    (fun s Wa Wb row hs hg hr => ⟨hs.1.out.grown hg (fun r e => .inl (by have := (hr r e).1; omega)), blk_grown hs.2.1.out hg (fun r e => (hr r e).2), blk_grown hs.2.2.out hg (fun r e => (hr r e).2)⟩)
    (fun _ _ _ _ _ hs _ _ => hs)
    ⟨hf0.mono (fun _ _ h => h.elim), H.out.blast.fr hf0 (fun h => h), b0⟩
    (fun x a' W => ∃ Bx, w.heap.size < Bx ∧ Blk W Bx 103 #[.int .i64 x.1.1, x.1.2] ∧ a' = crashAct w p A keep.length c Bx (.agg #[.int .i64 x.1.1, x.1.2]))
    (fun x a' s Wa Wb row hs hg hr => by obtain ⟨Bx, h1, h2, h3⟩ := hs; exact ⟨Bx, h1, blk_grown h2 hg (fun r e => (hr r e).2), h3⟩) ?assign ?body ?done ?stop
  case assign =>
    rintro l pre ⟨⟨xi, xv⟩, hxi, A2, n2, c2, hxv⟩ W K ⟨hI1, hI2, hI3⟩ hK
    dsimp only at hxv
    subst hxv
    have hz := hI1.out.size
    have HK := Lib.hid hK
    clear hK
    dsimp only [encK]
    gi_wp2
    refine HK.out _ _ ((KeepsOthers.alloc _ _).from _) ((KK.refl _ _).alloc _) ⟨hI1.out.alloc _, hI2.out.alloc _, hI3.out.alloc _⟩ ⟨W.heap.size, hI3.out.lt, Blk.new W _ _, ?_⟩
    rfl
  case body =>
    rintro l pre ⟨⟨xi, xv⟩, hxi, A2, n2, c2, hxv⟩ a' W hl hrec ⟨hI1, hI2, hI3⟩ ⟨Bx, hBx, hbx, rfl⟩ hlt
    dsimp only at hxv
    subst hxv
    dsimp only at hxi hbx ⊢
    have hpW : Blk W p 98 _ := H.out.blk.fr hI1.out hpl
    have d1 : W.cell? ⟨p, 1, none⟩ = some (.slice (some ⟨lb, 0, none⟩) S.now.length lv.length) := hpW.cell 1
    have e0 : W.cell? ⟨w.heap.size, 0, none⟩ = some (.pointer (some ⟨p, 0, none⟩)) := hI3.out.cell 0
    have x0 : W.cell? ⟨Bx, 0, none⟩ = some (.int .i64 xi) := hbx.cell 0
    have x1 : W.cell? ⟨Bx, 1, none⟩ = some (.slice A2 n2 c2) := hbx.cell 1
    have fl := hI2.out.frozen xi
    obtain ⟨v0, cl⟩ : ∃ v0, W.cell? ⟨lb, xi, none⟩ = some v0 := by
      rw [hI2.out.cell]
      have : xi < (setAll lv (pre.map (·.1))).length := by rw [setAll_length]; have h1 := H.out.last.1; have h2 := H.out.llen; omega
      exact ⟨_, by rw [List.getElem?_toArray]; exact List.getElem?_eq_getElem this⟩
    have HBx := Lib.hid hbx
    clear hpW hbx hrec
    unfold crashAct
    gi_wp2
    refine wpIn_region_held (fun w' => w'.cell? ⟨w.heap.size, 0, none⟩ = some (.pointer (some ⟨p, 0, none⟩)) ∧ w'.cell? ⟨p, 1, none⟩ = some (.slice (some ⟨lb, 0, none⟩) S.now.length lv.length) ∧ w'.cell? ⟨Bx, 0, none⟩ = some (.int .i64 xi) ∧ w'.cell? ⟨Bx, 1, none⟩ = some (.slice A2 n2 c2)) (by kernel_rfl) (by kernel_rfl) (fun _ _ h => h) ?_
    have hS : (fun w' : World => w'.cell? ⟨w.heap.size, 0, none⟩ = some (.pointer (some ⟨p, 0, none⟩)) ∧ w'.cell? ⟨p, 1, none⟩ = some (.slice (some ⟨lb, 0, none⟩) S.now.length lv.length) ∧ w'.cell? ⟨Bx, 0, none⟩ = some (.int .i64 xi) ∧ w'.cell? ⟨Bx, 1, none⟩ = some (.slice A2 n2 c2)) W.drew := ⟨e0, d1, x0, x1⟩
    refine wpAnyH_take (i := 0) (v := (.pointer (some ⟨p, 0, none⟩))) rfl (by kernel_rfl) (by kernel_rfl) (by kernel_rfl) (fun _ _ _ h => h) (.inl ⟨rfl, fun wz ⟨s0, s1, s2, s3⟩ => ?_⟩) hS ?_
    · clear e0 d1 x0 x1 cl fl
      go_simp
    refine wpAnyH_take (i := 1) (v := (.pointer (some ⟨p, 0, none⟩))) rfl (by kernel_rfl) (by kernel_rfl) (by kernel_rfl) (fun _ _ _ h => h) (.inl ⟨rfl, fun wz ⟨s0, s1, s2, s3⟩ => ?_⟩) hS ?_
    · clear e0 d1 x0 x1 cl fl
      go_simp
    refine wpAnyH_take (i := 2) (v := (.pointer (some ⟨p, 1, none⟩))) rfl (by kernel_rfl) (by kernel_rfl) (by kernel_rfl) (fun _ _ _ h => h) (.inl ⟨rfl, fun wz ⟨s0, s1, s2, s3⟩ => ?_⟩) hS ?_
    · clear e0 d1 x0 x1 cl fl
      go_simp
    refine wpAnyH_take (i := 3) (v := (.slice (some ⟨lb, 0, none⟩) S.now.length lv.length)) rfl (by kernel_rfl) (by kernel_rfl) (by kernel_rfl) (fun _ _ _ h => h) (.inl ⟨rfl, fun wz ⟨s0, s1, s2, s3⟩ => ?_⟩) hS ?_
    · clear e0 d1 x0 x1 cl fl
      go_simp
    refine wpAnyH_take (i := 4) (v := (.pointer (some ⟨Bx, 0, none⟩))) rfl (by kernel_rfl) (by kernel_rfl) (by kernel_rfl) (fun _ _ _ h => h) (.inl ⟨rfl, fun wz ⟨s0, s1, s2, s3⟩ => ?_⟩) hS ?_
    · clear e0 d1 x0 x1 cl fl
      go_simp
    refine wpAnyH_take (i := 5) (v := (.int .i64 xi)) rfl (by kernel_rfl) (by kernel_rfl) (by kernel_rfl) (fun _ _ _ h => h) (.inl ⟨rfl, fun wz ⟨s0, s1, s2, s3⟩ => ?_⟩) hS ?_
    · clear e0 d1 x0 x1 cl fl
      go_simp
    refine wpAnyH_take (i := 6) (v := (.pointer (some ⟨Bx, 1, none⟩))) rfl (by kernel_rfl) (by kernel_rfl) (by kernel_rfl) (fun _ _ _ h => h) (.inl ⟨rfl, fun wz ⟨s0, s1, s2, s3⟩ => ?_⟩) hS ?_
    · clear e0 d1 x0 x1 cl fl
      go_simp
    refine wpAnyH_take (i := 7) (v := (.slice A2 n2 c2)) rfl (by kernel_rfl) (by kernel_rfl) (by kernel_rfl) (fun _ _ _ h => h) (.inl ⟨rfl, fun wz ⟨s0, s1, s2, s3⟩ => ?_⟩) hS ?_
    · clear e0 d1 x0 x1 cl fl
      go_simp
    refine wpAnyH_take (i := 8) (v := (.pointer (some ⟨lb, xi, none⟩))) rfl (by kernel_rfl) (by kernel_rfl) (by kernel_rfl) (fun _ _ _ h => h) (.inl ⟨rfl, fun wz ⟨s0, s1, s2, s3⟩ => ?_⟩) hS ?_
    · clear e0 d1 x0 x1 cl fl
      go_simp
    refine wpAnyH_last (i := 9) ((W.setCell ⟨lb, xi, none⟩ (.slice A2 n2 c2)).drew) rfl (by kernel_rfl) (by kernel_rfl) rfl ?_ ?_ ?_
    · go_simp
    · go_simp
    · have hz := hI1.out.size
      refine ⟨((KeepsOthers.setCell _ _ _).trans (KeepsOthers.drew _)).from _, (KK.of_grown (grown_set W ⟨lb, xi, none⟩ _) (fun r e => by cases e; rfl)).drew, (hI1.out.setCell (p := ⟨lb, xi, none⟩) (.inr rfl) _).drew, ?_, ?_⟩
      · have := hI2.out.set_ xi (.slice A2 n2 c2)
        rw [List.setIfInBounds_toArray] at this
        show Blk _ _ _ _
        rw [List.map_append, List.map_singleton, setAll_snoc]
        exact this
      · exact (hI3.out.far (p := ⟨lb, xi, none⟩) (by intro e; simp at e; omega) _).drew
  case done =>
    rintro D ys W hD rfl ⟨hI1, hI2, hI3⟩ hK
    have hpW : Blk W p 98 _ := H.out.blk.fr hI1.out hpl
    have c0 : W.cell? ⟨p, 0, none⟩ = some (.slice (some ⟨nb, 0, none⟩) S.now.length nv.length) := hpW.cell 0
    have c1 : W.cell? ⟨p, 1, none⟩ = some (.slice (some ⟨lb, 0, none⟩) S.now.length lv.length) := hpW.cell 1
    have e0 : W.cell? ⟨w.heap.size, 0, none⟩ = some (.pointer (some ⟨p, 0, none⟩)) := hI3.out.cell 0
    have HpW := Lib.hid hpW
    have hnW := H.out.bnow.fr hI1.out H.out.ne
    obtain ⟨lv', hlv⟩ : ∃ l, setAll lv ((chosen keep wsA).map (·.1)) = l := ⟨_, rfl⟩
    rw [hlv] at hI2
    have hlen : lv'.length = lv.length := by rw [← hlv, setAll_length]
    have hcs : (chosen keep wsA).map (·.1) = chosen keep ws := by rw [← chosen_map, HwsA.out]
    have hsec : Secs R w lv' (setAll S.last (chosen keep S.waits)) := by
      rw [← hlv, hcs]; exact Secs.all_set _ _ (H.out.waits.pick keep) H.out.last
    have hNl : S.now.length ≤ lv.length := by have h1 := H.out.last.1; have h2 := H.out.llen; omega
    have hNn : S.now.length ≤ nv.length := H.out.now.1
    have hsl : (setAll S.last (chosen keep S.waits)).length = S.now.length := by rw [setAll_length]; exact H.out.llen
    have HSec := Lib.hid hsec
    have HSl := Lib.hid hsl
    clear hsec hsl hcs
    have HLv := Lib.hid hlv
    have HLen := Lib.hid hlen
    have HnW := Lib.hid hnW
    have HKd := Lib.hid hK
    clear hpW hnW hlv hlen hK
    have hct : Hid ((lv'.take S.now.length).length = S.now.length) := by show _ = _; rw [List.length_take, HLen.out]; omega
    have hn : Hid ((lv'.take S.now.length).length = Nat.min S.now.length S.now.length) := by show _ = _; rw [hct.out]; exact (Nat.min_self _).symm
    have hfit : Hid (0 + (lv'.take S.now.length).length ≤ nv.length) := by show _ ≤ _; rw [hct.out]; omega
    have hsrc : Hid (∀ j v, (lv'.take S.now.length)[j]? = some v → W.drew.cell? ((⟨lb, 0, none⟩ : Addr).add j) = some v) := by
      intro j v hj
      have := World.news_of_block hI2.out
      have hjl : j < S.now.length := by have := (List.getElem?_eq_some_iff.1 hj).1; rw [hct.out] at this; exact this
      rw [List.getElem?_take_of_lt hjl] at hj
      exact this j v (by simpa using hj)
    have hone : Hid (∀ v ∈ lv'.take S.now.length, v.oneCell' = true) := by
      intro v hv
      obtain ⟨i, hi, rfl⟩ := List.mem_iff_getElem.1 hv
      have hiN : i < S.now.length := by rw [hct.out] at hi; exact hi
      have hs : i < (setAll S.last (chosen keep S.waits)).length := by rw [HSl.out]; exact hiN
      have hil : i < lv'.length := by rw [HLen.out]; omega
      obtain ⟨A, m, c, e⟩ := (HSec.out.2 i lv'[i] _ (List.getElem?_eq_getElem hil) (List.getElem?_eq_getElem hs)).form
      rw [List.getElem_take, e]; rfl
    have hinf : (Tryz.prog.info? 38).map (·.size) = some 1 := by kernel_rfl
    go_wp2
    refine wp_quietly ?_
    go_region_law (refine step_copy_exact rfl (.tmp 21) (.tmp 25) 95 95 rfl 38 Tryz.underlying95 hinf (some ⟨nb, 0, none⟩) (some ⟨lb, 0, none⟩) S.now.length nv.length S.now.length lv.length rfl rfl nb 0 nv 38 HnW.out (lv'.take S.now.length) hn.out (fun _ => ⟨rfl, _, rfl, hsrc.out⟩) hfit.out hone.out ?_; intro w3 hg3 hb3)
    all_goals
      obtain ⟨nv', hnv'⟩ : ∃ l, splice nv 0 (lv'.take S.now.length) = l := ⟨_, rfl⟩
      have hg3' : Blk w3 nb 38 nv'.toArray := by
        have := hg3.out
        rw [hnv'] at this
        exact this
      have hnv1 : nv'.length = nv.length := by rw [← hnv', length_splice _ _ _ hfit.out]
      have hnv2 : ∀ i, i < S.now.length → nv'[i]? = lv'[i]? := by
        intro i hi
        rw [← hnv']
        simp only [splice, List.take_zero, List.nil_append]
        rw [List.getElem?_append_left (by rw [hct.out]; exact hi), List.getElem?_take_of_lt hi]
      have HNv1 := Lib.hid hnv1
      have HNv2 := Lib.hid hnv2
      clear hnv1 hnv2 hnv'
      have hpn : ¬ p = nb := Blk.ne_ H.out.blk H.out.bnow (by decide)
      have hp3 := Blk.grown (HpW.out.drew) hb3 (fun e => hpn (by injection e))
      have hb03 := Blk.grown (hI3.out.drew) hb3 (fun e => by injection e with e; have := H.out.bnow.lt; omega)
      have e3 : w3.cell? ⟨w.heap.size, 0, none⟩ = some (.pointer (some ⟨p, 0, none⟩)) := hb03.cell 0
      have k2 : w3.cell? ⟨p, 2, none⟩ = some wv := hp3.cell 2
      have k4 : w3.cell? ⟨p, 4, none⟩ = some (.int .i64 S.fuse) := hp3.cell 4
      have k5 : w3.cell? ⟨p, 5, none⟩ = some (.bool S.dead) := hp3.cell 5
      have q2 := hp3.frozen 2
      have q4 := hp3.frozen 4
      have q5 := hp3.frozen 5
      have HG3 := Lib.hid hg3'
      have HB3 := Lib.hid hb3
      have HP3 := Lib.hid hp3
      clear hg3 hg3' hb3 hp3 hb03
      have hwpn : ¬ w.heap.size = p := by omega
      dsimp only [OnlyNormal]
      go_wp2
      obtain ⟨w4, hw4⟩ : ∃ w4, ((w3.setCell ⟨p, 2, none⟩ (.slice none 0 0)).setCell ⟨p, 4, none⟩ (.int .i64 (-1))).setCell ⟨p, 5, none⟩ (.bool false) = w4 := ⟨_, rfl⟩
      rw [hw4]
      have hz3 := HB3.out.size
      have hDp : ¬ D = p := by omega
      have hDn : ¬ D = nb := by have := H.out.bnow.lt; omega
      have hDl : ¬ D = lb := by omega
      have hK4 : w4.heap[D]? = some (.deferred (some [])) := by
        have h3 : w3.heap[D]? = some (.deferred (some [])) := (HB3.out.block D (Array.getElem?_eq_some_iff.1 HKd.out).1 (fun e => hDn (by injection e))).trans HKd.out
        subst hw4
        rw [Below.heap_setCell _ _ _ _ hDp, Below.heap_setCell _ _ _ _ hDp, Below.heap_setCell _ _ _ _ hDp]
        exact h3
      have hf4 : Fr (fun b => b = p ∨ b = nb ∨ b = lb) w w4 := by
        have h3 : Fr (fun b => b = p ∨ b = nb ∨ b = lb) w w3 := (((hI1.out.mono (fun _ _ e => .inr (.inr e))).drew).grown HB3.out (fun k e => .inr (.inr (.inl (by injection e with e; exact e.symm)))))
        subst hw4
        exact ((h3.setCell (p := ⟨p, 2, none⟩) (.inr (.inl rfl)) _).setCell (p := ⟨p, 4, none⟩) (.inr (.inl rfl)) _).setCell (p := ⟨p, 5, none⟩) (.inr (.inl rfl)) _
      have hb4 := (((HP3.out.set_ 2 (.slice none 0 0)).set_ 4 (.int .i64 (-1))).set_ 5 (.bool false))
      have hpnl : ¬ nb = p := fun e => hpn e.symm
      have hlp : ¬ lb = p := fun e => hpl e.symm
      have hn4 : Blk w4 nb 38 nv'.toArray := by
        subst hw4
        exact ((HG3.out.far (p := ⟨p, 2, none⟩) hpnl _).far (p := ⟨p, 4, none⟩) hpnl _).far (p := ⟨p, 5, none⟩) hpnl _
      have hl4 : Blk w4 lb 38 (setAll lv ((chosen keep wsA).map (·.1))).toArray := by
        have h3 : Blk w3 lb 38 (setAll lv ((chosen keep wsA).map (·.1))).toArray := by
          rw [HLv.out]
          exact (hI2.out.drew).grown HB3.out (fun e => H.out.ne (by injection e with e; exact e.symm))
        subst hw4
        exact ((h3.far (p := ⟨p, 2, none⟩) hlp _).far (p := ⟨p, 4, none⟩) hlp _).far (p := ⟨p, 5, none⟩) hlp _
      rw [hw4] at hb4
      refine ⟨by simp, .inl ⟨_, _, rfl, run_takeDeferred hK4, ?_⟩⟩
      have hg5 := grownBy_putObj' w4 D (.deferred none)
      have hD5 : ∀ b, b < w.heap.size → ¬ some b = some D := fun b hb e => by injection e with e; omega
      have hf5 : Fr (fun b => b = p ∨ b = nb ∨ b = lb) w (w4.putObj D (.deferred none)) := hf4.grown hg5 (fun k e => by injection e with e; subst e; exact .inl (by omega))
      refine ⟨_, results_none rfl _ _ _, rfl, ?_⟩
      have hcs : (chosen keep wsA).map (·.1) = chosen keep ws := by rw [← chosen_map, HwsA.out]
      have hlv2 : lv' = setAll lv (chosen keep ws) := by rw [← HLv.out, hcs]
      rw [hcs] at hl4
      obtain ⟨r1, r2⟩ := crash_shape H.out (H.out.waits.pick keep) hf5 (hb4.grown hg5 (hD5 p hpz)) (hn4.grown hg5 (hD5 nb H.out.bnow.lt)) HNv1.out (by rw [← hlv2]; exact HNv2.out) (hl4.grown hg5 (hD5 lb hlz))
      exact ⟨⟨_, _, _, _, _, _, r1⟩, r2⟩
  case stop =>
    rintro D c pre W _ _ h _
    exact h.elim

theorem Crash_any (A : Option Addr) (c : Nat) (keep : List Int) (h : DiskOk R w p S) (hkp : IntsOut R w A keep) (hreach : keep.length * 8 ≤ 140737488351232) (hwl : S.waits.length < 4000000000) :
    Calls Tryz.prog 17 #[.pointer (some ⟨p, 0, none⟩), .slice A keep.length c] w fun e w' => e = .returned (.tuple #[]) ∧ DiskOk R w' p (S.crash keep) ∧ Fr R w w' :=
  (Crash_anyD A c keep h hkp hreach hwl).mono (fun _ _ h => ⟨h.1, h.2.1, FrD.fr h.2.2⟩)
end
end Go.Proofs.YtccmmnacejdeoaaGreatDoor
