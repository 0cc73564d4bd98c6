/-
  A range over a function whose rounds are handed what the function has just made (a fresh copy): what holds of it when it is handed over is told (G, of what came ahead and of it). No round leaves the loop early.
-/
import Derived.RangeFuncNested
import Derived.Test.YtieiopeblleheaaRoundRegion
namespace Go.Proofs.Ytieiopeblleheaa
set_option linter.unusedSimpArgs false
set_option linter.unusedVariables false
open Go.RowKit

/-- An iterator that yields some xs with S xs, one by one; at each call of yield G holds of what is yielded. -/
def Tells {α : Type} (F : Fence) (n : Nat) (P : Program) (g : Nat) (lb : Array Value) (encs : α → Array Value) (Kp : World → World → Prop) (G : List α → α → World → Prop) (S : List α → Prop) (N : Nat) (w : World) : Prop :=
  ∀ (l : Nat) (J : List α → World → Prop) (W : World), Below w.heap.size w W → AbidesFrom W.heap.size J →
    (∀ pre x U, J pre U → G pre x U → pre.length < N → YieldAt F (n - 1) P l (encs x) U fun e V => e = .returned (.bool true) ∧ J (pre ++ [x]) V ∧ Kp U V) →
    J [] W → CallsIn F n P g (#[.func (.yield l) #[] #[]] ++ lb) W fun e V => (∃ v, e = .returned v) ∧ ∃ xs, S xs ∧ J xs V

section
variable {F : Fence} {n : Nat} {P : Program}

/-- One round: the record is ready, G holds, the assignments and the body come to their end. -/
theorem told_round {fn : FuncId} {tmps : Array Value} {ps : Array Tmp} {assign body : Code} {B l D : Nat} {args : Array Value} {Kp : World → World → Prop} {J' : World → Prop} {U : World} (hfn : F.fn fn)
    (hBD : B ≤ D) (hDl : D < l) (rec : LoopState → Option Code → Loop) (hrec : rec = fun st pe => { state := st, pending := pe, fn := fn, tmps := tmps, params := ps, assign := assign, body := body, defers := D })
    (hl : U.heap[l]? = some (.loop (rec .ready none))) (hD : U.heap[D]? = some (.deferred (some []))) (hargs : args.size = ps.size)
    (hKt : ∀ {X Y Z : World}, Kp X Y → Kp Y Z → Kp X Z) (hKb : ∀ (W : World) (k : Nat) (o o' : Obj), B ≤ k → W.heap[k]? = some o → o.isCells = false → o.isWalk = false → Kp W (W.putObj k o'))
    (hJ' : ∀ W o, J' W → (∃ r, W.heap[l]? = some (.loop r)) → J' (W.putObj l o))
    (h : assign.wpIn (F.inRound l) n P (Exit.then (fun a₁ W₁ => KeepsFrom B U W₁ ∧ Kp U W₁ ∧ ∀ r, W₁.heap[l]? = some (.loop r) → body.wpIn (F.inRound l) n P (OnlyNormal fun _ V => KeepsFrom B (W₁.putObj l (.loop { r with state := .busy })) V ∧ Kp (W₁.putObj l (.loop { r with state := .busy })) V ∧ J' V) a₁ (W₁.putObj l (.loop { r with state := .busy }))) (fun _ _ _ => False))
      { tmps := (ps.zip args).foldl (fun t (p, v) => t.setIfInBounds p v) tmps, defers := [] } U) :
    YieldAt F n P l args U fun e V => e = .returned (.bool true) ∧ (J' V ∧ V.heap[l]? = some (.loop (rec .ready none)) ∧ V.heap[D]? = some (.deferred (some []))) ∧ Kp U V := by
  have hy := run_yield (P := P) (args := args) hl (by rw [hrec]; exact hargs)
  rw [hrec] at hy
  refine ⟨fn, _, assign, body, hy, roundIn_of_wpIn hfn (wpIn_mono h ?_)⟩
  intro e a₁ W₁ hq
  cases e with
  | normal =>
    obtain ⟨hk1, hp1, hb⟩ := hq
    have hl1 := hk1.same l _ (by omega) hl rfl
    have hD1 := hk1.same D _ hBD hD rfl
    have hlt : l < W₁.heap.size := (Array.getElem?_eq_some_iff.1 hl1).1
    refine ⟨_, run_beginRound hl1 (by rw [hrec]), ?_⟩
    refine wpIn_mono (hb _ hl1) ?_
    intro e a₂ V hq2
    cases e with
    | normal =>
      obtain ⟨hk2, hp2, hj⟩ := hq2
      have hb1 : (W₁.putObj l (.loop { rec .ready none with state := .busy })).heap[l]? = some (.loop { rec .ready none with state := .busy }) := World.putObj_heap_same hlt
      have hl2 := hk2.same l _ (by omega) hb1 rfl
      have hD2 := hk2.same D _ hBD ((World.putObj_heap_other (by omega)).trans hD1) rfl
      have hend := run_endRound (P := P) none hl2
      have hlt2 : l < V.heap.size := (Array.getElem?_eq_some_iff.1 hl2).1
      refine ⟨_, _, hend, rfl, ⟨hJ' _ _ hj ⟨_, hl2⟩, ?_, (World.putObj_heap_other (by omega)).trans hD2⟩, ?_⟩
      · rw [World.putObj_heap_same hlt2, hrec]; rfl
      · exact hKt hp1 (hKt (hKb W₁ l _ _ (by omega) hl1 rfl rfl) (hKt hp2 (hKb V l _ _ (by omega) hl2 rfl rfl)))
    | ret | exit _ | goto _ | panic _ | outgrown => exact hq2.elim
  | ret | exit _ | goto _ | panic _ | outgrown => exact hq.elim

/-- The statement. -/
theorem told_range {α : Type} {g : Operand} {ps : Array Tmp} {assign body : Code} {Q : Exit → Act → World → Prop} {a : Act} {w : World}
    (hro : F.round = none) (h1 : 1 ≤ n) {gf : Nat} {lb : Array Value} (hg : a.eval g = .func (.func gf) #[] lb) (hFg : F.fn gf) (eg : ∀ args w, (callFunc gf args).run P w = .ok (.enter gf args) w)
    {encs : α → Array Value} {Kp : World → World → Prop} {G : List α → α → World → Prop} {S : List α → Prop} {N : Nat} {w0 : World} (hseq : Tells F (n - 1) P gf lb encs Kp G S N w0)
    (hKt : ∀ {X Y Z : World}, Kp X Y → Kp Y Z → Kp X Z) (hKb : ∀ (W : World) (k : Nat) (o o' : Obj), w.heap.size ≤ k → W.heap[k]? = some o → o.isCells = false → o.isWalk = false → Kp W (W.putObj k o')) (hb0 : Below w0.heap.size w0 w) (hps : ∀ x, (encs x).size = ps.size)
    (I : List α → World → Prop) (hI : OwnFrom w.heap.size I) (h0 : I [] w)
    (hround : ∀ (l : Nat) (pre : List α) (x : α) (U : World), w.heap.size < l → I pre U → G pre x U → pre.length < N →
      assign.wpIn (F.inRound l) (n - 1 - 1) P (Exit.then (fun a₁ W₁ => KeepsFrom w.heap.size U W₁ ∧ Kp U W₁ ∧ ∀ r, W₁.heap[l]? = some (.loop r) → body.wpIn (F.inRound l) (n - 1 - 1) P (OnlyNormal fun _ V => KeepsFrom w.heap.size (W₁.putObj l (.loop { r with state := .busy })) V ∧ Kp (W₁.putObj l (.loop { r with state := .busy })) V ∧ I (pre ++ [x]) V) a₁ (W₁.putObj l (.loop { r with state := .busy }))) (fun _ _ _ => False))
        { tmps := (ps.zip (encs x)).foldl (fun t (p, v) => t.setIfInBounds p v) a.tmps, defers := [] } U)
    (hdone : ∀ (D : Nat) (xs : List α) (W : World), w.heap.size ≤ D → S xs → I xs W → W.heap[D]? = some (.deferred (some [])) → Q .normal { a with defers := { target := .collected D, args := #[] } :: a.defers } W) :
    (Code.rangeFunc g ps assign body).wpIn F n P Q a w := by
  refine wpIn_rangeFunc ?_
  intro fn hfn
  rw [hro]
  obtain ⟨rec, hrec⟩ : ∃ rec : LoopState → Option Code → Loop, rec = fun st pe => { state := st, pending := pe, fn := fn, tmps := a.tmps, params := ps, assign := assign, body := body, defers := w.heap.size } := ⟨_, rfl⟩
  obtain ⟨W1, hW1⟩ : ∃ W1, (w.alloc (.deferred (some []))).alloc (.loop (rec .ready none)) = W1 := ⟨_, rfl⟩
  have hz : W1.heap.size = w.heap.size + 2 := by rw [← hW1]; simp
  have hL : W1.heap[w.heap.size + 1]? = some (.loop (rec .ready none)) := by
    have := World.alloc_heap_new (w.alloc (.deferred (some []))) (.loop (rec .ready none))
    rw [World.size_alloc] at this
    rwa [hW1] at this
  have hD : W1.heap[w.heap.size]? = some (.deferred (some [])) := by
    rw [← hW1]; exact (Below.heap_alloc _ _ _ (by simp)).trans (World.alloc_heap_new w _)
  have hbel : Below w0.heap.size w0 W1 := by
    rw [← hW1]; exact hb0.trans ((((Below.refl _ w).alloc (Nat.le_refl _) _).alloc (by simp) _).mono hb0.size)
  refine ⟨w.heap.size + 1, [{ target := .collected w.heap.size, args := #[] }], W1, { target := .fn (.func gf) lb, args := #[.func (.yield (w.heap.size + 1)) #[] #[]] }, W1, gf, #[.func (.yield (w.heap.size + 1)) #[] #[]] ++ lb, W1, ?_, ?_, ?_, ?_, fun _ => h1, ?_⟩
  · rw [← hW1, hrec]; exact run_enterLoop_outer _ _ _ _ _
  · simp only [resolve, hg]
    simp [go_sem]
  · intro f' hf'
    simp [Target.leads] at hf'
    subst hf'
    exact hFg
  · simp [invoke, go_sem, eg]
  · refine (hseq (w.heap.size + 1) (fun pre W => I pre W ∧ W.heap[w.heap.size + 1]? = some (.loop (rec .ready none)) ∧ W.heap[w.heap.size]? = some (.deferred (some []))) W1 hbel ?_ ?_ ⟨?_, hL, hD⟩).mono ?_
    · intro s A B row hs hgr hr
      refine ⟨hI s A B row hs.1 hgr (fun r e => ?_), (grownBy_keeps hgr (fun r e => (hr r e).2) hs.2.1 rfl).trans hs.2.1, (grownBy_keeps hgr (fun r e => (hr r e).2) hs.2.2 rfl).trans hs.2.2⟩
      obtain ⟨hB, o, ho, hw⟩ := hr r e
      exact ⟨by omega, o, ho, Obj.not_cells_of_walk hw⟩
    · rintro pre x U ⟨hi, hl, hd⟩ hG hlen
      exact told_round hfn (Nat.le_refl _) (Nat.lt_succ_self _) rec hrec hl hd (hps x) hKt hKb
        (fun W o hj hlw => by obtain ⟨r, hr⟩ := hlw; exact hI.putObj _ hj (Nat.le_succ _) hr rfl) (hround _ pre x U (Nat.lt_succ_self _) hi hG hlen)
    · rw [← hW1]; exact hI.alloc _ (hI.alloc _ h0)
    · rintro e W2 ⟨⟨v, rfl⟩, xs, hS, hi, hl, hd⟩
      have hend := run_endLoop (P := P) hl (by rw [hrec]; simp)
      rw [hrec] at hend
      exact ⟨none, _, hend, hdone _ xs _ (Nat.le_refl _) hS (hI.putObj _ hi (by omega) hl rfl) ((World.putObj_heap_other (by omega)).trans hd)⟩
end
end Go.Proofs.Ytieiopeblleheaa
