/-
  Ranged, PoolChunk, PoolFlush, CrRanged, CrFl, in one text.
-/
import Derived.RangeFuncNested
import Derived.Test.YtccmmnacejdeoaaGreatDoorMg04
import Derived.Test.YtccmmnacejdeoaaGreatDoorMg07
import Derived.Test.YtccmmnacejdeoaaGreatDoorMg13
import Derived.Test.YtccmmnacejdeoaaGreatDoorMg35
import Derived.Test.YtccmmnacejdeoaaGreatDoorMg34
/-
  A range over a function that hands over a known row, one by one (Yields); no round leaves it early. The rounds may change the blocks M, all but the loop's own two.
-/
namespace Go.Proofs.YtccmmnacejdeoaaGreatDoor
set_option linter.unusedSimpArgs false
set_option linter.unusedVariables false
open Go.RowKit

theorem wide_fn (f : FuncId) : Fence.wide.fn f := trivial

section
variable {n : Nat} {P : Program}
end
end Go.Proofs.YtccmmnacejdeoaaGreatDoor

/-
  slices.Chunk: a row of ints, eight at a time.
-/
namespace Go.Proofs.YtccmmnacejdeoaaGreatDoor
set_option linter.unusedSimpArgs false
set_option linter.unusedVariables false
open Go.RowKit Go.Maps

/-- The k-th eight of N. -/
def eight (N k : Nat) : Nat := min 8 (N - 8 * k)
def encC (g o N : Nat) (k : Nat) : Array Value := #[.slice (some ⟨g, o + 8 * k, none⟩) (eight N k) (eight N k)]
set_option maxRecDepth 100000 in
theorem Chunk_any (A : Option Addr) (n c : Nat) (w : World) :
    Calls Tryz.prog 32 #[.slice A n c, .int .i64 8] w fun e w' => e = .returned (.func (.func 56) #[] #[.pointer (some ⟨w.heap.size, 0, none⟩), .pointer (some ⟨w.heap.size + 1, 0, none⟩)]) ∧ w' = (w.alloc (.cells #[.slice A n c] 55)).alloc (.cells #[.int .i64 8] 3) := by
  go_enter Tryz.func32, Tryz.ntmps32
  go_wp2
  go_ret
  exact ⟨by simp, rfl⟩
end Go.Proofs.YtccmmnacejdeoaaGreatDoor

/-
  Flush.
-/
namespace Go.Proofs.YtccmmnacejdeoaaGreatDoor
set_option linter.unusedSimpArgs false
set_option linter.unusedVariables false
open Go.RowKit Go.Maps
attribute [local go_sem] Oper.semAt_some

theorem info_pF : (Tryz.prog.info? 71).map (fun i => (i.zero, i.size, i.bytes)) = some (some (.pointer none), 1, 8) := by kernel_rfl
/-- Of each number a frame. -/
theorem frames_of (gs : List (Nat × Frm)) : ∀ zs : List Int, (∀ z ∈ zs, ∃ y ∈ gs, (y.2.x.no : Int) = z) → ∃ ys : List (Nat × Frm), ys.map (fun y => (y.2.x.no : Int)) = zs ∧ ∀ y ∈ ys, y ∈ gs
  | [], _ => ⟨[], rfl, fun _ h => by cases h⟩
  | z :: zs, h => by
    obtain ⟨ys, h1, h2⟩ := frames_of gs zs (fun x hx => h x (List.mem_cons_of_mem _ hx))
    obtain ⟨y, hy, e⟩ := h z (List.mem_cons_self ..)
    exact ⟨y :: ys, by rw [List.map_cons, h1, e], fun u hu => (List.mem_cons.1 hu).elim (fun e => e ▸ hy) (h2 u)⟩
section
variable {w w' : World} {p f l d pages : Nat} {frames : Int} {V : Nat → PgV} {L : LS} {M N : Nat} {RP RQ RL RD F : Nat → Prop} {hand : Int} {B : Nat} {rv : Value} {fs : List (Nat × Frm)} {cur : Nat → Option PgV} {S : DS} {T : Nat} {lot : List PgV}
end
end Go.Proofs.YtccmmnacejdeoaaGreatDoor

/-
  A range over a function that hands over a known row, one by one, where a round may leave it by a return (YieldsX): what holds then is X.
-/
namespace Go.Proofs.YtccmmnacejdeoaaGreatDoor
set_option linter.unusedSimpArgs false
set_option linter.unusedVariables false
open Go.RowKit Go.Maps

/-- An iterator that yields xs, one by one, till a round says no more; a round may change M. -/
def YieldsX {α : Type} (n : Nat) (P : Program) (g : Nat) (lb : Array Value) (encs : α → Array Value) (M : Nat → Prop) (xs : List α) (W : World) : Prop :=
  ∀ (l : Nat) (J : List α → World → Prop) (X : World → Prop), (∀ pre U V, J pre U → Fr Nob U V → J pre V) → (∀ U V, X U → Fr Nob U V → X V) →
    (∀ pre x suf U, pre ++ x :: suf = xs → J pre U → Fr M W U → YieldAt Fence.wide (n - 1) P l (encs x) U fun e V => (e = .returned (.bool true) ∧ J (pre ++ [x]) V ∧ Fr M U V) ∨ (e = .returned (.bool false) ∧ X V)) →
    J [] W → CallsIn Fence.wide n P g (#[.func (.yield l) #[] #[]] ++ lb) W fun e V => (∃ v, e = .returned v) ∧ (J xs V ∨ X V)
/-- What a round's body ends in: off its end, or by a return. -/
def RetPost (N R : World → Prop) : Exit → Act → World → Prop
  | .normal, _, V => N V
  | .ret, _, V => R V
  | _, _, _ => False

section
variable {n : Nat} {P : Program}
theorem rangedX_round {fn : FuncId} {tmps : Array Value} {ps : Array Tmp} {assign body : Code} {l D : Nat} {args : Array Value} {M Mx : Nat → Prop} {J' X' : World → Prop} {U : World}
    (hMl : ¬ M l) (hMD : ¬ M D) (hMxl : ¬ Mx l) (hMxD : ¬ Mx D) (hDl : D < l) (rec : LoopState → Option Code → Loop) (hrec : rec = fun st pe => { state := st, pending := pe, fn := fn, tmps := tmps, params := ps, assign := assign, body := body, defers := D })
    (hl : U.heap[l]? = some (.loop (rec .ready none))) (hD : U.heap[D]? = some (.deferred (some []))) (hargs : args.size = ps.size)
    (hJ' : ∀ V V', J' V → Fr (fun b => b = D ∨ b = l) V V' → J' V') (hX' : ∀ V V', X' V → Fr (fun b => b = D ∨ b = l) V V' → X' V')
    (h : assign.wpIn (Fence.wide.inRound l) n P (Exit.then (fun a₁ W₁ => W₁ = U ∧ body.wpIn (Fence.wide.inRound l) n P (RetPost (fun V => Fr M (U.putObj l (.loop (rec .busy none))) V ∧ J' V) (fun V => Fr Mx (U.putObj l (.loop (rec .busy none))) V ∧ X' V)) a₁ (U.putObj l (.loop (rec .busy none)))) (fun _ _ _ => False))
      { tmps := (ps.zip args).foldl (fun t (p, v) => t.setIfInBounds p v) tmps, defers := [] } U) :
    YieldAt Fence.wide n P l args U fun e V => (e = .returned (.bool true) ∧ (J' V ∧ V.heap[l]? = some (.loop (rec .ready none)) ∧ V.heap[D]? = some (.deferred (some []))) ∧ Fr (fun b => M b ∨ b = l) U V) ∨ (e = .returned (.bool false) ∧ X' V ∧ V.heap[l]? = some (.loop (rec .done (some .ret))) ∧ V.heap[D]? = some (.deferred (some []))) := by
  have hy := run_yield (P := P) (args := args) hl (by rw [hrec]; exact hargs)
  rw [hrec] at hy
  refine ⟨fn, _, assign, body, hy, roundIn_of_wpIn (wide_fn fn) (wpIn_mono h ?_)⟩
  intro e a₁ W₁ hq
  cases e with
  | normal =>
    obtain ⟨rfl, hb⟩ := hq
    have hlt : l < W₁.heap.size := (Array.getElem?_eq_some_iff.1 hl).1
    refine ⟨_, run_beginRound hl (by rw [hrec]), ?_⟩
    have hb' := hb
    rw [hrec] at hb' ⊢
    refine wpIn_mono hb' ?_
    intro e a₂ V hq2
    have hend : ∀ (M : Nat → Prop) (jump : Option Code), ¬ M l → ¬ M D → Fr M (W₁.putObj l (.loop (rec .busy none))) V → (∃ W', (Instr.endRound l jump).run P V = .ok (.bool jump.isNone) W' ∧ W'.heap[l]? = some (.loop (rec (if jump.isNone then .ready else .done) jump)) ∧ W'.heap[D]? = some (.deferred (some [])) ∧ Fr (fun b => b = l) V W') ∧ Fr (fun b => M b ∨ b = l) W₁ V := by
      intro M jump hMl hMD hf2
      have hb1 : (W₁.putObj l (.loop (rec .busy none))).heap[l]? = some (.loop (rec .busy none)) := World.putObj_heap_same hlt
      have hsz : (W₁.putObj l (.loop (rec .busy none))).heap.size = W₁.heap.size := by simp [World.putObj]
      rw [hrec] at hb1 hsz hf2
      have hl2 := (hf2.block l (by omega) hMl).trans hb1
      have hDlt : D < W₁.heap.size := (Array.getElem?_eq_some_iff.1 hD).1
      have hD2 := (hf2.block D (by omega) hMD).trans ((World.putObj_heap_other (by omega)).trans hD)
      have hend := run_endRound (P := P) jump hl2
      have hlt2 : l < V.heap.size := (Array.getElem?_eq_some_iff.1 hl2).1
      have hfl : ∀ (W : World) (o : Obj), Fr (fun b => b = l) W (W.putObj l o) := fun W o => (Fr.refl _ W).grown (grownBy_putObj' W l o) (fun r e => by cases e; exact .inr rfl)
      refine ⟨⟨_, hend, ?_, (World.putObj_heap_other (by omega)).trans hD2, hfl V _⟩, ((hfl W₁ _).mono (fun _ _ e => .inr e)).trans (hf2.mono (fun _ _ e => .inl e))⟩
      rw [World.putObj_heap_same hlt2, hrec]
    cases e with
    | normal =>
      rw [← hrec] at hq2
      obtain ⟨hf2, hj⟩ := hq2
      obtain ⟨⟨W', h1, h2, h3, h4⟩, h5⟩ := hend M none hMl hMD hf2
      exact ⟨_, _, h1, .inl ⟨rfl, ⟨hJ' _ _ hj (h4.mono (fun _ _ e => .inr e)), (by rw [hrec] at h2; exact h2), h3⟩, h5.trans (h4.mono (fun _ _ e => .inr e))⟩⟩
    | ret =>
      rw [← hrec] at hq2
      obtain ⟨hf2, hj⟩ := hq2
      obtain ⟨⟨W', h1, h2, h3, h4⟩, h5⟩ := hend Mx (some .ret) hMxl hMxD hf2
      exact ⟨_, _, h1, .inr ⟨rfl, hX' _ _ hj (h4.mono (fun _ _ e => .inr e)), (by rw [hrec] at h2; exact h2), h3⟩⟩
    | exit _ | goto _ | panic _ | outgrown => exact hq2.elim
  | ret | exit _ | goto _ | panic _ | outgrown => exact hq.elim
/-- The statement. -/
theorem rangedX {α : Type} {g : Operand} {ps : Array Tmp} {assign body : Code} {Q : Exit → Act → World → Prop} {a : Act} {w : World}
    (h1 : 1 ≤ n) {gf : Nat} {lb : Array Value} (hg : a.eval g = .func (.func gf) #[] lb) (eg : ∀ args w, (callFunc gf args).run P w = .ok (.enter gf args) w)
    {encs : α → Array Value} {M Mx : Nat → Prop} {xs : List α} (hM : ¬ M w.heap.size ∧ ¬ M (w.heap.size + 1)) (hMx : ¬ Mx w.heap.size ∧ ¬ Mx (w.heap.size + 1)) (hseq : ∀ W, Fr Nob w W → YieldsX (n - 1) P gf lb encs (fun b => M b ∨ b = w.heap.size + 1) xs W) (hps : ∀ x, (encs x).size = ps.size)
    (I : List α → World → Prop) (X : World → Prop) (hI : ∀ pre U V, I pre U → Fr (fun b => b = w.heap.size ∨ b = w.heap.size + 1) U V → I pre V) (hX : ∀ U V, X U → Fr (fun b => b = w.heap.size ∨ b = w.heap.size + 1) U V → X V) (h0 : I [] w)
    (hround : ∀ pre x suf U (rec : LoopState → Option Code → Loop), pre ++ x :: suf = xs → I pre U → Fr (fun b => M b ∨ b = w.heap.size + 1) w U → w.heap.size + 2 ≤ U.heap.size →
      assign.wpIn (Fence.wide.inRound (w.heap.size + 1)) (n - 1 - 1) P (Exit.then (fun a₁ W₁ => W₁ = U ∧ body.wpIn (Fence.wide.inRound (w.heap.size + 1)) (n - 1 - 1) P (RetPost (fun V => Fr M (U.putObj (w.heap.size + 1) (.loop (rec .busy none))) V ∧ I (pre ++ [x]) V) (fun V => Fr Mx (U.putObj (w.heap.size + 1) (.loop (rec .busy none))) V ∧ X V)) a₁ (U.putObj (w.heap.size + 1) (.loop (rec .busy none)))) (fun _ _ _ => False))
        { tmps := (ps.zip (encs x)).foldl (fun t (p, v) => t.setIfInBounds p v) a.tmps, defers := [] } U)
    (hdone : ∀ W : World, I xs W → W.heap[w.heap.size]? = some (.deferred (some [])) → Q .normal { a with defers := { target := .collected w.heap.size, args := #[] } :: a.defers } W)
    (hleft : ∀ W : World, X W → W.heap[w.heap.size]? = some (.deferred (some [])) → Code.ret.wpIn Fence.wide n P Q { a with defers := { target := .collected w.heap.size, args := #[] } :: a.defers } W) :
    (Code.rangeFunc g ps assign body).wpIn Fence.wide n P Q a w := by
  refine wpIn_rangeFunc ?_
  intro fn hfn
  rw [show (Fence.wide).round = none from rfl]
  obtain ⟨rec, hrec⟩ : ∃ rec : LoopState → Option Code → Loop, rec = fun st pe => { state := st, pending := pe, fn := fn, tmps := a.tmps, params := ps, assign := assign, body := body, defers := w.heap.size } := ⟨_, rfl⟩
  obtain ⟨W1, hW1⟩ : ∃ W1, (w.alloc (.deferred (some []))).alloc (.loop (rec .ready none)) = W1 := ⟨_, rfl⟩
  have hz : W1.heap.size = w.heap.size + 2 := by rw [← hW1]; simp
  have hL : W1.heap[w.heap.size + 1]? = some (.loop (rec .ready none)) := by
    have := World.alloc_heap_new (w.alloc (.deferred (some []))) (.loop (rec .ready none))
    rw [World.size_alloc] at this
    rwa [hW1] at this
  have hD : W1.heap[w.heap.size]? = some (.deferred (some [])) := by
    rw [← hW1]; exact (Below.heap_alloc _ _ _ (by simp)).trans (World.alloc_heap_new w _)
  have hf1 : Fr Nob w W1 := by rw [← hW1]; exact ((Fr.refl _ w).alloc _).alloc _
  refine ⟨w.heap.size + 1, [{ target := .collected w.heap.size, args := #[] }], W1, { target := .fn (.func gf) lb, args := #[.func (.yield (w.heap.size + 1)) #[] #[]] }, W1, gf, #[.func (.yield (w.heap.size + 1)) #[] #[]] ++ lb, W1, ?_, ?_, ?_, ?_, fun _ => h1, ?_⟩
  · rw [← hW1, hrec]; exact run_enterLoop_outer _ _ _ _ _
  · simp only [resolve, hg]
    simp [go_sem]
  · intro f' hf'
    simp [Target.leads] at hf'
    subst hf'
    exact wide_fn gf
  · simp [invoke, go_sem, eg]
  · refine (hseq W1 hf1 (w.heap.size + 1) (fun pre W => I pre W ∧ W.heap[w.heap.size + 1]? = some (.loop (rec .ready none)) ∧ W.heap[w.heap.size]? = some (.deferred (some []))) (fun W => X W ∧ W.heap[w.heap.size + 1]? = some (.loop (rec .done (some .ret))) ∧ W.heap[w.heap.size]? = some (.deferred (some []))) ?_ ?_ ?_ ⟨hI _ _ _ h0 (hf1.mono (fun _ _ h => h.elim)), hL, hD⟩).mono ?_
    · intro pre U V hs hf
      exact ⟨hI _ _ _ hs.1 (hf.mono (fun _ _ h => h.elim)), (hf.block _ (Array.getElem?_eq_some_iff.1 hs.2.1).1 (fun h => h)).trans hs.2.1, (hf.block _ (Array.getElem?_eq_some_iff.1 hs.2.2).1 (fun h => h)).trans hs.2.2⟩
    · intro U V hs hf
      exact ⟨hX _ _ hs.1 (hf.mono (fun _ _ h => h.elim)), (hf.block _ (Array.getElem?_eq_some_iff.1 hs.2.1).1 (fun h => h)).trans hs.2.1, (hf.block _ (Array.getElem?_eq_some_iff.1 hs.2.2).1 (fun h => h)).trans hs.2.2⟩
    · rintro pre x suf U he ⟨hi, hl, hd⟩ hfU
      exact rangedX_round hM.2 hM.1 hMx.2 hMx.1 (Nat.lt_succ_self _) rec hrec hl hd (hps x) (fun V V' hv hf => hI _ _ _ hv hf) (fun V V' hv hf => hX _ _ hv hf) (hround pre x suf U rec he hi (hf1.mono (fun _ _ h => h.elim) |>.trans hfU) (by have := hfU.size; omega))
    · rintro e W2 ⟨⟨v, rfl⟩, ⟨hi, hl, hd⟩ | ⟨hx, hl, hd⟩⟩
      · have hend := run_endLoop (P := P) hl (by rw [hrec]; simp)
        rw [hrec] at hend
        have hlt : w.heap.size + 1 < W2.heap.size := (Array.getElem?_eq_some_iff.1 hl).1
        refine ⟨none, _, hend, hdone _ (hI _ _ _ hi ((Fr.refl _ W2).grown (grownBy_putObj' W2 _ _) (fun r e => by cases e; exact .inr (.inr rfl)))) ((World.putObj_heap_other (by omega)).trans hd)⟩
      · have hend := run_endLoop (P := P) hl (by rw [hrec]; simp)
        rw [hrec] at hend
        have hlt : w.heap.size + 1 < W2.heap.size := (Array.getElem?_eq_some_iff.1 hl).1
        refine ⟨some .ret, _, hend, hleft _ (hX _ _ hx ((Fr.refl _ W2).grown (grownBy_putObj' W2 _ _) (fun r e => by cases e; exact .inr (.inr rfl)))) ((World.putObj_heap_other (by omega)).trans hd)⟩
end
/-! ### slices.Chunk, that a round may leave -/
set_option maxRecDepth 100000 in
set_option maxHeartbeats 4000000 in
theorem Chunk1_yieldsX (n : Nat) (hn : 1 ≤ n) (A : Option Addr) (g o N c b1 b2 : Nat) (M : Nat → Prop) (W : World) (hA : 0 < N → A = some ⟨g, o, none⟩) (h1 : W.cell? ⟨b1, 0, none⟩ = some (.slice A N c)) (h2 : W.cell? ⟨b2, 0, none⟩ = some (.int .i64 8)) (hM1 : ¬ M b1) (hM2 : ¬ M b2) (hNc : N ≤ c) (hN : N ≤ 1000) :
    YieldsX n Tryz.prog 56 #[.pointer (some ⟨b1, 0, none⟩), .pointer (some ⟨b2, 0, none⟩)] (encC g o N) M (List.range ((N + 7) / 8)) W := by
  intro l J X hJ hX hY h0
  have HX := Lib.hid hX
  have z1 := cell_lt h1
  have z2 := cell_lt h2
  have qL := len_round
  have HJ := Lib.hid hJ
  have HY := Lib.hid hY
  have HA := Lib.hid hA
  clear hJ hX hY hA
  refine callsIn_of_wp Tryz.func56 rfl trivial ?_ rfl
  simp only [Tryz.ntmps56, List.size_toArray, List.length_cons, List.length_nil, Nat.reduceAdd, Nat.reduceSub, Array.replicate_succ, Array.replicate_zero, List.push_toArray, List.append_toArray, List.nil_append, List.cons_append]
  gi_wp2
  gi_loopw [4, 5] (fun i _ wr => ∃ k : Nat, k ≤ (N + 7) / 8 ∧ i = .int .i64 ((8 * k : Nat) : Int) ∧ J (List.range k) wr ∧ Fr M W wr)
    (fun i _ _ => N + 8 - (intOf i).toNat)
  case atStart => exact ⟨0, Nat.zero_le _, rfl, h0, Fr.refl _ _⟩
  case round =>
    obtain ⟨k, hk, rfl, hJs, hF⟩ := hrel
    have c1 := (hF.cell (p := ⟨b1, 0, none⟩) z1 hM1).trans h1
    have c2 := (hF.cell (p := ⟨b2, 0, none⟩) z2 hM2).trans h2
    have zw1 := cell_lt c1
    have zw2 := cell_lt c2
    by_cases hlt : 8 * k < N
    · have hA' := HA.out (by omega)
      subst hA'
      obtain ⟨m, hm⟩ : ∃ m, eight N k = m := ⟨_, rfl⟩
      have hm8 : m ≤ 8 := by rw [← hm]; exact Nat.min_le_left _ _
      have hmN : 8 * k + m ≤ N := by
        have : eight N k ≤ N - 8 * k := Nat.min_le_right _ _
        omega
      have HMin : Hid (min (8 : Int) ((N - 8 * k : Nat) : Int) = (m : Int)) := by
        show _ = _
        rw [← hm]; unfold eight; omega
      have hm0 : ¬ m = 0 := by rw [← hm]; unfold eight; omega
      have HM := Lib.hid hm
      have hlt' : ((8 * k : Nat) : Int) < (N : Int) := by omega
      have hsplit : List.range k ++ k :: ((List.range ((N + 7) / 8)).drop (k + 1)) = List.range ((N + 7) / 8) := by
        have hkl : k < (List.range ((N + 7) / 8)).length := by simp; omega
        have h1 := List.take_append_drop k (List.range ((N + 7) / 8))
        rw [List.drop_eq_getElem_cons hkl] at h1
        simpa [List.take_range, Nat.min_eq_left (show k ≤ (N + 7) / 8 by omega)] using h1
      have HSp := Lib.hid hsplit
      have HJs := Lib.hid hJs
      have HF := Lib.hid hF
      clear hsplit hm hJs hF h1 h2 z1 z2
      gi_wp2
      have hS : Fr Nob wr wr.drew := (Fr.refl _ wr).drew
      refine RgI.begin (Fr Nob wr) [] (by kernel_rfl) ?_
      refine RgI.op 0 (some 13) hS (v := (.int .i64 8)) (a' := ?a0a) (hy := fun wz hwz => ?h0a) (ha := ?b0a) (h := ?_)
      case h0a => (have cx := (hwz.cell (p := ⟨b2, 0, none⟩) zw2 (fun h => h)).trans c2; have hpp := Nat.lt_of_lt_of_le zw2 hwz.size; go_simp; try with_reducible rfl)
      case b0a => (simp only [Act.put, List.setIfInBounds_toArray, List.set_cons_zero, List.set_cons_succ]; rfl)
      refine RgI.op 1 (some 14) hS (v := (.slice (some ⟨g, o, none⟩) N c)) (a' := ?a1a) (hy := fun wz hwz => ?h1a) (ha := ?b1a) (h := ?_)
      case h1a => (have cx := (hwz.cell (p := ⟨b1, 0, none⟩) zw1 (fun h => h)).trans c1; have hpp := Nat.lt_of_lt_of_le zw1 hwz.size; go_simp; try with_reducible rfl)
      case b1a => (simp only [Act.put, List.setIfInBounds_toArray, List.set_cons_zero, List.set_cons_succ]; rfl)
      refine RgI.op 2 (some 15) hS (v := ?v2a) (a' := ?a2a) (hy := fun wz hwz => ?h2a) (ha := ?b2a) (h := ?_)
      case h2a => (go_simp; try with_reducible rfl)
      case b2a => (simp only [Act.put, List.setIfInBounds_toArray, List.set_cons_zero, List.set_cons_succ]; rfl)
      refine RgI.op 3 (some 16) hS (v := (.slice (some ⟨g, o + 8 * k, none⟩) (N - 8 * k) (c - 8 * k))) (a' := ?a3a) (hy := fun wz hwz => ?h3a) (ha := ?b3a) (h := ?_)
      case h3a => (have hq0 : (0 : Int) ≤ 8 * (k : Int) := (by omega); have hq1 : 8 * (k : Int) ≤ (N : Int) := (by omega); have hq3 : (8 * (k : Int)).toNat = 8 * k := (by omega); have hq4 : ¬ c = 8 * k := (by omega); go_simp; try with_reducible rfl)
      case b3a => (simp only [Act.put, List.setIfInBounds_toArray, List.set_cons_zero, List.set_cons_succ]; rfl)
      refine RgI.op 4 (some 17) hS (v := (.int .i64 ((N - 8 * k : Nat) : Int))) (a' := ?a4a) (hy := fun wz hwz => ?h4a) (ha := ?b4a) (h := ?_)
      case h4a => (have hq := qL; go_simp; try with_reducible rfl)
      case b4a => (simp only [Act.put, List.setIfInBounds_toArray, List.set_cons_zero, List.set_cons_succ]; rfl)
      refine RgI.op 5 (some 18) hS (v := (.int .i64 m)) (a' := ?a5a) (hy := fun wz hwz => ?h5a) (ha := ?b5a) (h := ?_)
      case h5a => (have hq := HMin.out; go_simp; try with_reducible rfl)
      case b5a => (simp only [Act.put, List.setIfInBounds_toArray, List.set_cons_zero, List.set_cons_succ]; rfl)
      refine RgI.op 6 (some 5) hS (v := ?v6a) (a' := ?a6a) (hy := fun wz hwz => ?h6a) (ha := ?b6a) (h := ?_)
      case h6a => (go_simp; try with_reducible rfl)
      case b6a => (simp only [Act.put, List.setIfInBounds_toArray, List.set_cons_zero, List.set_cons_succ]; rfl)
      refine RgI.done _ (h := ?_)
      obtain ⟨fn, tmps, assign, body, hy, hR⟩ := HY.out (List.range k) k _ wr.drew HSp.out (HJ.out _ _ _ HJs.out hS) (HF.out.drew)
      unfold encC at hy
      rw [HM.out] at hy
      gi_wp2
      refine hR.mono ?_
      rintro e W3 (⟨rfl, hJ3, hf3⟩ | ⟨rfl, hx3⟩)
      rotate_left
      · gi_wp2
        refine bodyPost_ret (results_none rfl _ _ _) rfl ?_
        exact ⟨⟨_, rfl⟩, .inr hx3⟩
      have c2 := (hf3.cell (p := ⟨b2, 0, none⟩) zw2 hM2).trans c2
      have zw2 := cell_lt c2
      gi_wp2
      go_roundw
      case rel => exact ⟨k + 1, by omega, by go_num, by rw [List.range_succ]; exact hJ3, HF.out.drew.trans hf3⟩
      case measure => simp [intOf]; omega
    · obtain rfl : k = (N + 7) / 8 := by omega
      have hge : ¬ ((8 * ((N + 7) / 8) : Nat) : Int) < (N : Int) := by omega
      gi_wp2
      go_end0
      exact ⟨⟨_, rfl⟩, .inl hJs⟩
end Go.Proofs.YtccmmnacejdeoaaGreatDoor

/-
  Flush, on a disk that may die.
-/
namespace Go.Proofs.YtccmmnacejdeoaaGreatDoor
set_option linter.unusedSimpArgs false
set_option linter.unusedVariables false
open Go.RowKit Go.Maps
attribute [local go_sem] Oper.semAt_some

section
variable {w w' : World} {p f l d pages : Nat} {frames : Int} {V : Nat → PgV} {L : LS} {M N : Nat} {RP RQ RL RD F : Nat → Prop} {hand : Int} {B : Nat} {rv : Value} {fs : List (Nat × Frm)} {cur : Nat → Option PgV} {S : DS} {T : Nat} {lot : List PgV}
theorem PInC.wroteL (h : PInC w p f l d pages frames V L M N RP RQ RL RD hand B rv fs cur S T lot) (ys : List (Nat × Frm)) (hys : ∀ y ∈ ys, y ∈ fs) (hdis : ∀ (i j : Nat) x y, ys[i]? = some x → ys[j]? = some y → x.2.x.no = y.2.x.no → i = j) {L' : LS} {S' : DS} {RD' : Nat → Prop} (hM : M + 1 ≤ 1000000000000000000) (hsa : LSame L L')
    (hp : PoolAt RP RQ w' p f l frames hand B rv (cleanF (ys.map (·.2.x.no)) fs)) (hu : UndC w' f l d pages (curW cur (ys.map (·.2.x)) ys.length) L' S' (T + 1) (ys.map (·.2.x)) RL RD' N) (hsub : ∀ b, RD' b → RD b ∨ w.heap.size ≤ b) :
    PInC w' p f l d pages frames V L' (M + 1) N RP RQ RL RD' hand B rv (cleanF (ys.map (·.2.x.no)) fs) (curW cur (ys.map (·.2.x)) ys.length) S' (T + 1) (ys.map (·.2.x)) where
  pool := hp
  und := hu
  ap := fun b hb => ⟨(h.ap b hb).1, fun e => by
    rcases hsub b e with e | e
    · exact (h.ap b hb).2.1 e
    · rcases hb with hb | hb
      · have := h.pool.lt b hb; omega
      · have := h.pool.ltq b hb; omega, (h.ap b hb).2.2⟩
  views := h.views.cleaned (ys.map (·.2.x.no)) (fun no hno => curW_not cur _ no (fun x hx e => hno (by
      obtain ⟨y, hy, rfl⟩ := List.mem_map.1 hx
      rw [← e]; exact List.mem_map.2 ⟨y, hy, rfl⟩)) _) (fun y hy hn => by
      obtain ⟨z, hz, e⟩ := List.mem_map.1 hn
      obtain ⟨i, hi⟩ := List.mem_iff_getElem?.1 hz
      have e2 : z.2.x = y.2.x := by
        have h1 := h.views.held z (hys z hz)
        have h2 := h.views.held y hy
        rw [h1, h2, e]
      have := curW_of cur (ys.map (·.2.x)) (fun i j x y hx hy e => by
        rw [List.getElem?_map] at hx hy
        obtain ⟨x', hx', rfl⟩ := Option.map_eq_some_iff.1 hx
        obtain ⟨y', hy', rfl⟩ := Option.map_eq_some_iff.1 hy
        exact hdis i j x' y' hx' hy' e) ys.length i z.2.x (List.getElem?_eq_some_iff.1 hi).1 (by rw [List.getElem?_map, hi]; rfl)
      rw [e2] at this
      exact this) (fun n hn => by
      obtain ⟨z, hz, e⟩ := List.mem_map.1 hn
      exact ⟨z, hys z hz, e⟩)
  tm := by have := h.tm; omega
  M1 := hM
  kk := fun y hy => by
    obtain ⟨z, hz, _, e, _⟩ := cleanF_mem hy
    rw [← e, hsa.next]
    exact h.kk z hz
  vok := h.vok
set_option maxHeartbeats 12800000 in
set_option maxRecDepth 100000 in
theorem Flush_pinC (h : PInC w p f l d pages frames V L M N RP RQ RL RD hand B rv fs cur S T lot) (hM : M + 8 ≤ 1000000000000000000) :
    Calls Tryz.prog 14 #[.pointer (some ⟨p, 0, none⟩)] w fun e w' => (e = .returned (.int .i64 0) ∧ ∃ L' S' T' lot' RD' fs' cur', PInC w' p f l d pages frames V L' (M + 8) N RP RQ RL RD' hand B rv fs' cur' S' T' lot' ∧ LSame L L' ∧ (∀ y ∈ fs', y.2.dirty = false) ∧ (∀ b, RD' b → RD b ∨ w.heap.size ≤ b) ∧ Fr (Uni RP RQ RL RD f) w w') ∨ (e = .returned (.int .i64 50) ∧ LostE w w' d RD (Uni RP RQ RL RD f)) := by
  obtain ⟨i0, hi0, hz0, hz1, hz2⟩ := info_parts info_pF
  have qL := len_round
  have H := Lib.hid h
  have HUlt : Hid (∀ b, Uni RP RQ RL RD f b → b < w.heap.size) := fun b hb => h.lt hb
  obtain ⟨z, hz⟩ : ∃ z, w.heap.size = z := ⟨_, rfl⟩
  have HZ := Lib.hid hz
  have hDy := fun (W : World) (hW : Fr Nob w W) => Dirty_any (h.new hW).pool (fun y hy => (h.views.ok y hy).1.no)
  have HDy := Lib.hid hDy
  have HCh : Hid (∀ (A : Option Addr) (n c : Nat) (W : World), Calls Tryz.prog 32 #[.slice A n c, .int .i64 8] W fun e w' => e = .returned (.func (.func 56) #[] #[.pointer (some ⟨W.heap.size, 0, none⟩), .pointer (some ⟨W.heap.size + 1, 0, none⟩)]) ∧ w' = (W.alloc (.cells #[.slice A n c] 55)).alloc (.cells #[.int .i64 8] 3)) := fun A n c W => Chunk_any A n c W
  clear h hDy hz
  refine (callsIn_wide (n := 6)).1 ?_
  refine callsIn_of_wp_marks Tryz.func14 rfl trivial ?_ rfl
  simp only [Tryz.ntmps14, List.size_toArray, List.length_cons, List.length_nil, Nat.reduceAdd, Nat.reduceSub, Array.replicate_succ, Array.replicate_zero, List.push_toArray, List.append_toArray, List.nil_append, List.cons_append]
  refine wpIn_wide.2 ?_
  go_wp2_with fail
  have hfa : Fr Nob w ((w.alloc (.cells #[.pointer (some ⟨p, 0, none⟩)] 25)).alloc (.cells #[.int .i64 0] 26)) := ((Fr.refl _ w).alloc _).alloc _
  have hza : ((w.alloc (.cells #[.pointer (some ⟨p, 0, none⟩)] 25)).alloc (.cells #[.int .i64 0] 26)).heap.size = z + 2 := by simp [HZ.out]
  have hb0 : Blk ((w.alloc (.cells #[.pointer (some ⟨p, 0, none⟩)] 25)).alloc (.cells #[.int .i64 0] 26)) z 25 #[.pointer (some ⟨p, 0, none⟩)] := by
    rw [← HZ.out]; exact (Blk.new w _ _).alloc _
  have hb1 : Blk ((w.alloc (.cells #[.pointer (some ⟨p, 0, none⟩)] 25)).alloc (.cells #[.int .i64 0] 26)) (z + 1) 26 #[.int .i64 0] := by
    have := Blk.new (w.alloc (.cells #[.pointer (some ⟨p, 0, none⟩)] 25)) 26 #[.int .i64 0]
    rwa [World.size_alloc, HZ.out] at this
  rw [HZ.out]
  obtain ⟨wa, hwa⟩ : ∃ W, (w.alloc (.cells #[.pointer (some ⟨p, 0, none⟩)] 25)).alloc (.cells #[.int .i64 0] 26) = W := ⟨_, rfl⟩
  rw [hwa] at hfa hza hb0 hb1 ⊢
  clear hwa
  refine (HDy.out _ hfa).mono ?_
  rintro e w1 ⟨A, rfl, hri, hfre, hf1⟩
  obtain ⟨n, hn⟩ : ∃ n, (dirtyNos fs).length = n := ⟨_, rfl⟩
  have hn64 : n ≤ 64 := by rw [← hn]; exact H.out.pool.dirty_len
  have HN := Lib.hid hn
  obtain ⟨g, o, hA, hgz, hgl, hcs⟩ : ∃ g o : Nat, (0 < n → A = some ⟨g, o, none⟩) ∧ (0 < n → z + 2 ≤ g) ∧ (0 < n → g < w1.heap.size) ∧ ∀ (j : Nat) x, (dirtyNos fs)[j]? = some x → w1.cell? ⟨g, o + j, none⟩ = some (.int .i64 x) := by
    rcases Nat.eq_zero_or_pos n with h0 | h0
    · exact ⟨0, 0, fun h => by omega, fun h => by omega, fun h => by omega, fun j x hx => by have := (List.getElem?_eq_some_iff.1 hx).1; omega⟩
    · obtain ⟨g, o, e, hc⟩ := hri (by omega)
      refine ⟨g, o, fun _ => e, fun _ => ?_, fun _ => ?_, hc⟩
      · have := hfre _ e; dsimp only at this; omega
      · obtain ⟨x, hx⟩ : ∃ x, (dirtyNos fs)[0]? = some x := ⟨_, List.getElem?_eq_getElem (by omega)⟩
        exact cell_lt (hc 0 x hx)
  rw [hn]
  have HA := Lib.hid hA
  have HGz := Lib.hid hgz
  have HGl := Lib.hid hgl
  have HCs := Lib.hid hcs
  have HB0 := Lib.hid (hb0.fr hf1 (fun h => h))
  have HB1 := Lib.hid (hb1.fr hf1 (fun h => h))
  have HF1 := Lib.hid (hfa.trans hf1)
  have HZ1 : Hid (z + 2 ≤ w1.heap.size) := by have := hf1.size; show _ ≤ _; omega
  clear hri hfre hf1 hA hgz hgl hcs hb0 hb1 hfa hza HDy hn
  go_wp2_with fail
  refine (HCh.out A n n w1).mono ?_
  rintro e w2 ⟨rfl, hw2⟩
  have hf2 : Fr Nob w1 w2 := by rw [hw2]; exact ((Fr.refl _ w1).alloc _).alloc _
  have hz2 : w2.heap.size = w1.heap.size + 2 := by rw [hw2]; simp
  have q1 : w2.cell? ⟨w1.heap.size, 0, none⟩ = some (.slice A n n) := by rw [hw2]; exact ((Blk.new w1 55 #[.slice A n n]).alloc _).cell 0
  have q2 : w2.cell? ⟨w1.heap.size + 1, 0, none⟩ = some (.int .i64 8) := by
    rw [hw2]
    have := Blk.new (w1.alloc (.cells #[.slice A n n] 55)) 3 #[.int .i64 8]
    rw [World.size_alloc] at this
    exact this.cell 0
  have HB0 := Lib.hid (HB0.out.fr hf2 (fun h => h))
  have HB1 := Lib.hid (HB1.out.fr hf2 (fun h => h))
  have HF2 := Lib.hid (HF1.out.trans hf2)
  have HP2 := Lib.hid (H.out.new (HF1.out.trans hf2))
  have HQ1 := Lib.hid q1
  have HQ2 := Lib.hid q2
  have HZ2 := Lib.hid hz2
  have HCs2 : Hid (∀ (j : Nat) x, (dirtyNos fs)[j]? = some x → w2.cell? ⟨g, o + j, none⟩ = some (.int .i64 x)) := fun j x hx => (hf2.cell (p := ⟨g, o + j, none⟩) (cell_lt (HCs.out j x hx)) (fun h => h)).trans (HCs.out j x hx)
  clear hw2 hf2 hz2 q1 q2 HCh
  go_wp2_with fail
  refine (wpIn_wide (n := 6)).1 ?_
  have hUz : ∀ b, Uni RP RQ RL RD f b → b < z := fun b hb => by have := HUlt.out b hb; have := HZ.out; omega
  have HUz := Lib.hid hUz
  have hMb : ∀ b, z ≤ b → b < w2.heap.size + 2 → ¬ ((Uni RP RQ RL RD f b ∨ w2.heap.size + 2 ≤ b)) := fun b h1 h2 e => by
    rcases e with e | e
    · have := hUz b e; omega
    · omega
  have hzz := HZ1.out
  have hzw1 : w1.heap.size + 2 ≤ w2.heap.size := Nat.le_of_eq HZ2.out.symm
  have hzw2 : w2.heap.size ≤ w1.heap.size + 2 := Nat.le_of_eq HZ2.out
  refine rangedX (n := 6) (by decide) (gf := 56) (lb := #[.pointer (some ⟨w1.heap.size, 0, none⟩), .pointer (some ⟨w1.heap.size + 1, 0, none⟩)]) rfl (enters_of Tryz.func56 (by kernel_rfl) rfl)
    (encs := encC g o n) (M := fun b => Uni RP RQ RL RD f b ∨ w2.heap.size + 2 ≤ b) (Mx := fun b => (Uni RP RQ RL RD f b ∨ w2.heap.size + 2 ≤ b) ∨ b = z + 1) (xs := List.range ((n + 7) / 8)) ⟨hMb _ (by omega) (by omega), hMb _ (by omega) (by omega)⟩ ⟨fun e => e.elim (hMb _ (by omega) (by omega)) (by omega), fun e => e.elim (hMb _ (by omega) (by omega)) (by omega)⟩
    (fun W hW => Chunk1_yieldsX 5 (by decide) A g o n n _ _ _ W HA.out ((hW.cell (p := ⟨w1.heap.size, 0, none⟩) (cell_lt HQ1.out) (fun h => h)).trans HQ1.out) ((hW.cell (p := ⟨w1.heap.size + 1, 0, none⟩) (cell_lt HQ2.out) (fun h => h)).trans HQ2.out)
      (fun e => by rcases e with e | e; exact hMb _ (by omega) (by omega) e; omega) (fun e => by rcases e with e | e; exact hMb _ (by omega) (by omega) e; omega) (Nat.le_refl _) (by omega)) (fun _ => rfl)
    (fun pre W => ∃ L' S' T' lot' RD' cur', Hid (PInC W p f l d pages frames V L' (M + pre.length) N RP RQ RL RD' hand B rv (cleanF (((dirtyNos fs).take (8 * pre.length)).map (·.toNat)) fs) cur' S' T' lot') ∧ Hid (LSame L L') ∧ Hid (∀ b, RD' b → RD b ∨ w2.heap.size + 2 ≤ b) ∧ Hid (Fr (fun b => Uni RP RQ RL RD f b ∨ w2.heap.size ≤ b) w2 W))
    (fun W => Hid (W.cell? ⟨z + 1, 0, none⟩ = some (.int .i64 50)) ∧ Hid (∃ S' RD', DiskOk RD' W d S' ∧ Safe S' ∧ (∀ b, RD' b → RD b ∨ w2.heap.size + 2 ≤ b)) ∧ Hid (Fr (fun b => (Uni RP RQ RL RD f b ∨ b = z + 1) ∨ w2.heap.size ≤ b) w2 W))
    ?stable ?stablex ?start ?round ?done ?left
  case stable =>
    rintro pre U Y ⟨L', S', T', lot', RD', cur', h1, h2, h3, h4⟩ hf
    refine ⟨L', S', T', lot', RD', cur', h1.out.fr hf (fun b hb e => ?_), h2, h3, h4.out.trans (hf.mono (fun b _ e => .inr (by omega)))⟩
    rcases hb with hb | hb | hb | hb | hb
    · have := HUz.out b (.inl hb); omega
    · have := HUz.out b (.inr (.inl hb)); omega
    · have := HUz.out b (.inr (.inr (.inl hb))); omega
    · rcases h3.out b hb with hb | hb
      · have := HUz.out b (.inr (.inr (.inr (.inl hb)))); omega
      · omega
    · have := HUz.out b (.inr (.inr (.inr (.inr hb)))); omega
  case stablex =>
    rintro U Y ⟨h1, ⟨S', RD', d1, d2, d3⟩, h3⟩ hf
    refine ⟨(hf.cell (p := ⟨z + 1, 0, none⟩) (cell_lt h1.out) (by show ¬ (z + 1 = _ ∨ z + 1 = _); omega)).trans h1.out, ⟨S', RD', d1.fr hf (fun b hb e => ?_), d2, d3⟩, h3.out.trans (hf.mono (fun b _ e => .inr (by omega)))⟩
    rcases d3 b hb with hb | hb
    · have := HUz.out b (.inr (.inr (.inr (.inl hb)))); omega
    · omega
  case left =>
    rintro W ⟨h1, ⟨S', RD', d1, d2, d3⟩, h3⟩ hD
    have c0 := h1.out
    have z0 := cell_lt c0
    have HD := Lib.hid hD
    have HC := Lib.hid c0
    have HDk := Lib.hid d1
    have HSf := Lib.hid d2
    clear h1 d1 d2 hD c0
    refine wpIn_ret ?_
    try simp only [Exit.inBlock, Exit.then]
    have hg5 := grownBy_putObj' W w2.heap.size (.deferred none)
    have hf5 : Fr (fun b => b = w2.heap.size) W (W.putObj w2.heap.size (.deferred none)) := (Fr.refl _ W).grown hg5 (fun r e => by cases e; exact .inr rfl)
    have cr : (W.putObj w2.heap.size (.deferred none)).cell? ⟨z + 1, 0, none⟩ = some (.int .i64 50) := (hf5.cell (p := ⟨z + 1, 0, none⟩) z0 (by show ¬ z + 1 = _; omega)).trans HC.out
    refine ⟨by simp, .inl ⟨_, _, rfl, run_takeDeferred HD.out, ?_⟩⟩
    refine ⟨.int .i64 50, by simp [results, Tryz.results14, go_sem, cr], ?_⟩
    refine .inr ⟨rfl, S', RD', HDk.out.fr hf5 (fun b hb e => ?_), HSf.out, fun b hb => ?_, ?_⟩
    · rcases d3 b hb with hb | hb
      · have := HUz.out b (.inr (.inr (.inr (.inl hb)))); omega
      · omega
    · have := HZ.out
      rcases d3 b hb with hb | hb
      · exact .inl hb
      · exact .inr (by omega)
    · have := HZ.out
      exact (HF2.out.mono (fun _ _ h => h.elim) : Fr (Uni RP RQ RL RD f) w w2).step h3.out (fun i hi e => by
        rcases e with (e | e) | e
        · exact e
        · omega
        · omega) |>.step hf5 (fun i hi e => by omega)
  case start =>
    refine ⟨L, S, T, lot, RD, cur, ?_, LSame.refl L, fun b hb => .inl hb, Fr.refl _ _⟩
    have e : cleanF (((dirtyNos fs).take (8 * ([] : List Nat).length)).map (·.toNat)) fs = fs := by simp [cleanF_nil]
    rw [e]
    exact HP2.out
  case done =>
    rintro W ⟨L', S', T', lot', RD', cur', h1, h2, h3, h4⟩ hD
    rw [List.length_range] at h1
    have hall : (dirtyNos fs).take (8 * ((n + 7) / 8)) = dirtyNos fs := List.take_of_length_le (by rw [HN.out]; omega)
    rw [hall] at h1
    have hnU : ∀ b, z ≤ b → ¬ Uni RP RQ RL RD f b := fun b hb e => by have := HUz.out b e; omega
    have hb1 := HB1.out.fr h4.out (fun e => by
      rcases e with e | e
      · exact hnU _ (by omega) e
      · have := HB1.out.lt; omega)
    have c0 := hb1.cell 0
    have f0 := hb1.frozen 0
    have z0 := hb1.lt
    simp only [List.getElem?_toArray, List.getElem?_cons_zero] at c0
    have HBe := Lib.hid hb1
    have HD := Lib.hid hD
    have H1 := Lib.hid h1.out
    have hzW : w2.heap.size ≤ W.heap.size := h4.out.size
    clear h1 hb1 hD hall
    go_wp2
    have hfW : Fr (fun b => b = z + 1) W (W.setCell ⟨z + 1, 0, none⟩ (.int .i64 0)) := (Fr.refl (fun b => b = z + 1) W).setCell (p := ⟨z + 1, 0, none⟩) (.inr rfl) _
    have hbE := HBe.out.set_ 0 (.int .i64 0)
    obtain ⟨W1, hW1⟩ : ∃ W1, W.setCell ⟨z + 1, 0, none⟩ (.int .i64 0) = W1 := ⟨_, rfl⟩
    rw [hW1] at hfW hbE ⊢
    have hD1 : W1.heap[w2.heap.size]? = some (.deferred (some [])) := (hfW.block _ (Array.getElem?_eq_some_iff.1 HD.out).1 (by omega)).trans HD.out
    have hg5 := grownBy_putObj' W1 w2.heap.size (.deferred none)
    have hf5 : Fr (fun b => b = w2.heap.size) W1 (W1.putObj w2.heap.size (.deferred none)) := (Fr.refl _ W1).grown hg5 (fun r e => by cases e; exact .inr rfl)
    have hr := hbE.fr hf5 (by omega)
    have cr : (W1.putObj w2.heap.size (.deferred none)).cell? ⟨z + 1, 0, none⟩ = some (.int .i64 0) := by
      have := hr.cell 0
      simpa using this
    refine ⟨by simp, .inl ⟨_, _, rfl, run_takeDeferred hD1, ?_⟩⟩
    refine ⟨.int .i64 0, by simp [results, Tryz.results14, go_sem, cr], ?_⟩
    have hfE : Fr (fun b => b = z + 1 ∨ b = w2.heap.size) W (W1.putObj w2.heap.size (.deferred none)) := (hfW.mono (fun _ _ e => .inl e)).trans (hf5.mono (fun _ _ e => .inr e))
    have hpE := H1.out.fr hfE (fun b hb e => by
      rcases hb with hb | hb | hb | hb | hb
      · have := HUz.out b (.inl hb); omega
      · have := HUz.out b (.inr (.inl hb)); omega
      · have := HUz.out b (.inr (.inr (.inl hb))); omega
      · rcases h3.out b hb with hb | hb
        · have := HUz.out b (.inr (.inr (.inr (.inl hb)))); omega
        · omega
      · have := HUz.out b (.inr (.inr (.inr (.inr hb)))); omega)
    refine .inl ⟨rfl, L', S', T', lot', RD', _, cur', { hpE with tm := by have := hpE.tm; omega, M1 := hM }, h2.out, fun y hy => clean_all hy, fun b hb => ?_, ?_⟩
    · have := HZ.out
      rcases h3.out b hb with hb | hb
      · exact .inl hb
      · exact .inr (by omega)
    · have := HZ.out
      exact (HF2.out.mono (fun _ _ h => h.elim) : Fr (Uni RP RQ RL RD f) w w2).step h4.out (fun i hi e => by
        rcases e with e | e
        · exact e
        · omega) |>.step hfE (fun i hi e => by omega)
  case round =>
    rintro pre x suf U rec hspl ⟨L', S', T', lot', RD', cur', h1, h2, h3, h4⟩ hfU hszU
    obtain ⟨k, hk⟩ : ∃ k, pre.length = k := ⟨_, rfl⟩
    rw [hk] at h1
    have hxk : x = k ∧ k < (n + 7) / 8 := by
      have h5 : (List.range ((n + 7) / 8))[k]? = some x := by rw [← hspl, ← hk]; simp
      have h6 := (List.getElem?_eq_some_iff.1 h5)
      obtain ⟨h6, h7⟩ := h6
      rw [List.length_range] at h6
      rw [List.getElem_range] at h7
      exact ⟨h7.symm, h6⟩
    obtain ⟨rfl, hkn⟩ := hxk
    obtain ⟨m, hm⟩ : ∃ m, eight n x = m := ⟨_, rfl⟩
    have hm8 : m ≤ 8 := by rw [← hm]; exact Nat.min_le_left _ _
    have hmN : 8 * x + m ≤ n ∧ 0 < m := by
      have h5 : eight n x = min 8 (n - 8 * x) := rfl
      omega
    have hmn : m = min 8 (n - 8 * x) := hm.symm
    have hA' := HA.out (by omega)
    have hgl := HGl.out (by omega)
    have hgz := HGz.out (by omega)
    subst hA'
    -- the frames of this eight
    obtain ⟨gs, hgs⟩ : ∃ gs, cleanF (((dirtyNos fs).take (8 * x)).map (·.toNat)) fs = gs := ⟨_, rfl⟩
    rw [hgs] at h1
    have hks : ksOf gs = ksOf fs := by rw [← hgs]; exact cleanF_ks _ _
    obtain ⟨zs, hzs⟩ : ∃ zs, ((dirtyNos fs).drop (8 * x)).take m = zs := ⟨_, rfl⟩
    have hzl : zs.length = m := by rw [← hzs, List.length_take, List.length_drop, HN.out]; omega
    have hzget : ∀ (j : Nat) y, zs[j]? = some y → (dirtyNos fs)[8 * x + j]? = some y := fun j y hy => by
      rw [← hzs, List.getElem?_take] at hy
      split at hy
      · rw [List.getElem?_drop] at hy; exact hy
      · cases hy
    have hznd : zs.Nodup := by rw [← hzs]; exact ((H.out.pool.dirty_nodup.sublist (List.drop_sublist _ _)).sublist (List.take_sublist _ _))
    obtain ⟨ys, hyz, hym⟩ := frames_of gs zs (fun q hq => by
      have hq' : q ∈ dirtyNos fs := List.mem_of_mem_drop (List.mem_of_mem_take (by rw [hzs]; exact hq))
      obtain ⟨y, hy, e, _⟩ := dirtyNos_mem.1 hq'
      have hin : q ∈ numsOf gs := by
        unfold numsOf
        rw [hks]
        exact numsOf_mem.2 ⟨y, hy, e⟩
      exact numsOf_mem.1 hin)
    have hyl : ys.length = m := by have := congrArg List.length hyz; rw [List.length_map] at this; omega
    have hydis : ∀ (i j : Nat) a b, ys[i]? = some a → ys[j]? = some b → a.2.x.no = b.2.x.no → i = j := fun i j a b ha hb e => by
      have h5 : zs[i]? = some (a.2.x.no : Int) := by rw [← hyz, List.getElem?_map, ha]; rfl
      have h6 : zs[j]? = some (a.2.x.no : Int) := by rw [← hyz, List.getElem?_map, hb, e]; rfl
      have h7 := (List.getElem?_eq_some_iff.1 h5).1
      exact (List.getElem?_inj h7 hznd).1 (h5.trans h6.symm)
    have hyn : ys.map (·.2.x.no) = zs.map (·.toNat) := by
      rw [← hyz, List.map_map]
      exact List.map_congr_left (fun y _ => by simp)
    have hcat : ((dirtyNos fs).take (8 * x)).map (·.toNat) ++ ys.map (·.2.x.no) = ((dirtyNos fs).take (8 * (x + 1))).map (·.toNat) := by
      rw [hyn, ← List.map_append]
      congr 1
      rw [← hzs]
      by_cases h8 : m = 8
      · rw [h8, ← List.take_add]; rfl
      · have e1 : (dirtyNos fs).take (8 * (x + 1)) = dirtyNos fs := List.take_of_length_le (by rw [HN.out]; omega)
        have e2 : ((dirtyNos fs).drop (8 * x)).take m = (dirtyNos fs).drop (8 * x) := List.take_of_length_le (by rw [List.length_drop, HN.out]; omega)
        rw [e1, e2, List.take_append_drop]
    -- the round begins
    have hfx : Fr (fun b => b = w2.heap.size ∨ b = w2.heap.size + 1) U (U.putObj (w2.heap.size + 1) (.loop (rec .busy none))) := (Fr.refl _ U).grown (grownBy_putObj' _ _ _) (fun r e => by cases e; exact .inr (.inr rfl))
    have hPV := h1.out.fr hfx (fun b hb e => by
      rcases hb with hb | hb | hb | hb | hb
      · have := HUz.out b (.inl hb); omega
      · have := HUz.out b (.inr (.inl hb)); omega
      · have := HUz.out b (.inr (.inr (.inl hb))); omega
      · rcases h3.out b hb with hb | hb
        · have := HUz.out b (.inr (.inr (.inr (.inl hb)))); omega
        · omega
      · have := HUz.out b (.inr (.inr (.inr (.inr hb)))); omega)
    have hFV := h4.out.trans (hfx.mono (G := fun b => Uni RP RQ RL RD f b ∨ w2.heap.size ≤ b) (fun b _ e => .inr (by omega)))
    have hzV : w2.heap.size + 2 ≤ (U.putObj (w2.heap.size + 1) (.loop (rec .busy none))).heap.size := Nat.le_trans hszU hfx.size
    obtain ⟨V0, hV0⟩ : ∃ V0, U.putObj (w2.heap.size + 1) (.loop (rec .busy none)) = V0 := ⟨_, rfl⟩
    rw [hV0] at hPV hFV hzV ⊢
    have hnU : ∀ b, z ≤ b → b < w2.heap.size → ¬ (Uni RP RQ RL RD f b ∨ w2.heap.size ≤ b) := fun b h1 h2 e => by
      rcases e with e | e
      · have := HUz.out b e; omega
      · omega
    have c0 : V0.cell? ⟨z, 0, none⟩ = some (.pointer (some ⟨p, 0, none⟩)) := (HB0.out.fr hFV (hnU z (Nat.le_refl _) (by omega))).cell 0
    have zz := cell_lt c0
    have HCV : Hid (∀ (j : Nat) y, zs[j]? = some y → V0.cell? ⟨g, o + 8 * x + j, none⟩ = some (.int .i64 y)) := fun j y hy => by
      have h5 := HCs2.out _ _ (hzget j y hy)
      rw [← Nat.add_assoc] at h5
      exact (hFV.cell (p := ⟨g, o + 8 * x + j, none⟩) (by show g < _; omega) (hnU g (by omega) (by omega))).trans h5
    have HPV := Lib.hid hPV
    have HFV := Lib.hid hFV
    have HZV := Lib.hid hzV
    have HGs := Lib.hid hgs
    have HZl := Lib.hid hzl
    have HYm := Lib.hid hym
    have HYz := Lib.hid hyz
    have HYl := Lib.hid hyl
    have HYd := Lib.hid hydis
    have HCat := Lib.hid hcat
    have HK := Lib.hid hk
    have HM := Lib.hid hm
    have HMn := Lib.hid hmn
    have HHn := Lib.hid hnU
    have HP4 := Lib.hid h4
    have hmpos := hmN.2
    have p3 := hPV.pool.blk.cell 3
    have zp := hPV.pool.blk.lt
    simp only [List.getElem?_toArray, List.getElem?_cons_zero, List.getElem?_cons_succ] at p3
    clear hspl h1 h4 hks hzs hzget hznd hym hyz hyl hydis hyn hcat hgs hk hm hmn hPV hFV hfx hfU hnU hzl hMb hUz hzV hmN
    unfold encC
    rw [HM.out]
    gi_wp2
    gi_loopw [4, 6, 14] (fun v _ iv wr => ∃ j : Nat, j ≤ m ∧ iv = .int .i64 j ∧ Hid (wr.ownsRow V0.heap.size 71 1 v j ((ys.take j).map fun y => .pointer (some ⟨y.1, 0, none⟩))) ∧ Hid (Fr Nob V0 wr)) (fun _ _ iv _ => m - (intOf iv).toNat)
    case atStart => exact ⟨0, by omega, rfl, World.ownsRow_nil _ _ _ _, Fr.refl _ _⟩
    case round =>
      obtain ⟨j, hj, rfl, hrow, hF⟩ := hrel
      by_cases hlt : j < m
      · obtain ⟨⟨b, fr⟩, hyj⟩ : ∃ y, ys[j]? = some y := ⟨_, List.getElem?_eq_getElem (by rw [HYl.out]; exact hlt)⟩
        have hzj : zs[j]? = some (fr.x.no : Int) := by rw [← HYz.out, List.getElem?_map, hyj]; rfl
        have cg0 := HCV.out j _ hzj
        have zg0 := cell_lt cg0
        have cg := (hF.out.cell (p := ⟨g, o + 8 * x + j, none⟩) zg0 (fun h => h)).trans cg0
        have zg := cell_lt cg
        have c0 := (hF.out.cell (p := ⟨z, 0, none⟩) zz (fun h => h)).trans c0
        have zz' := cell_lt c0
        have p3 := (hF.out.cell (p := ⟨p, 3, none⟩) zp (fun h => h)).trans p3
        have zp' := cell_lt p3
        dsimp only at zg zz' zp'
        have hyg : ((b, fr) : Nat × Frm) ∈ gs := HYm.out _ (List.mem_of_getElem? hyj)
        obtain ⟨i, hi⟩ := List.mem_iff_getElem?.1 hyg
        have hno5 : fr.x.no < 100000 := (HPV.out.views.ok _ hyg).1.no
        have hq := (HPV.out.pool.map.fr hF.out (fun h => h)).run_get key_law Tryz.underlying67 (mapif_zero _) (fr.x.no : Int) (key_of _ (by omega) (by omega))
        rw [heldAt_at HPV.out.pool.dis (ksOf_of hi)] at hq
        dsimp only [ptrOf] at hq
        have HTk : Hid (((ys.take (j + 1)).map fun y => (.pointer (some ⟨y.1, 0, none⟩) : Value)) = ((ys.take j).map fun y => .pointer (some ⟨y.1, 0, none⟩)) ++ [.pointer (some ⟨b, 0, none⟩)]) := by
          show _ = _
          rw [List.take_add_one, hyj, List.map_append]; rfl
        have hjm : (j : Int) < (m : Int) := by omega
        have hj0 : (0 : Int) ≤ (j : Int) := by omega
        have hownW : Hid ((wr.alloc (.cells #[.pointer (some ⟨b, 0, none⟩)] 71)).ownsRow V0.heap.size 71 1 u4 j ((ys.take j).map fun y => .pointer (some ⟨y.1, 0, none⟩))) := hrow.out.alloc _
        have HNw : Hid (∀ (q : Nat) u, ([.pointer (some ⟨b, 0, none⟩)] : List Value)[q]? = some u → (wr.alloc (.cells #[.pointer (some ⟨b, 0, none⟩)] 71)).cell? ((⟨wr.heap.size, 0, none⟩ : Addr).add q) = some u) := fun q u hu => by
          have hb := Blk.new wr 71 #[.pointer (some ⟨b, 0, none⟩)]
          rw [Addr.add_mid, Nat.zero_add]; exact (hb.cell q).trans (by simpa using hu)
        have hsz1 : V0.heap.size ≤ wr.heap.size := hF.out.size
        have HRow := Lib.hid hrow.out
        have HF := Lib.hid hF.out
        clear hrow hF cg0 zg0 hyj hzj hyg hi
        gi_wp2_with (gi_at_builtin; refine wpListIn_append_own_at _ rfl (.tmp 18) (.tmp 25) 78 rfl V0.heap.size 71 i0 (.pointer none) 1 8 Tryz.underlying78 hi0 hz0 hz1 hz2 rfl (by decide) u4 j ((ys.take j).map fun y => .pointer (some ⟨y.1, 0, none⟩)) rfl hownW.out ⟨wr.heap.size, 0, none⟩ 1 1 [.pointer (some ⟨b, 0, none⟩)] rfl rfl HNw.out (by simp [Value.oneCell']) (by unfold maxLen; omega) (by omega) (by simp; omega) ?_; intro v7 w7 hown7 hg7 hn7 hat7; have HO7 := Lib.hid hown7; have HG7 := Lib.hid hg7; clear hown7 hg7 hn7 hat7)
        have HF7 : Hid (Fr Nob V0 w7) := (HF.out.alloc (.cells #[.pointer (some ⟨b, 0, none⟩)] 71)).step (Fr.grown (Fr.refl (fun b => some b = u4.ownBlock) _) HG7.out (fun r hr => .inr hr.symm)) (fun i hi e => by have := (HRow.out.lt i e.symm).1; omega)
        go_roundw
        case rel => exact ⟨j + 1, by omega, by go_num, by rw [HTk.out]; exact HO7, HF7⟩
        case measure => simp [intOf]; omega
      · obtain rfl : j = m := by omega
        have hme := HYl.out
        have hrow' := hrow.out
        rw [List.take_of_length_le (Nat.le_of_eq hme)] at hrow'
        obtain ⟨gv, cv, rfl, _⟩ := hrow'.form hmpos
        have hgv : V0.heap.size ≤ gv ∧ gv < wr.heap.size := hrow'.lt gv rfl
        have hcv : ∀ (q : Nat) y, ys[q]? = some y → wr.cell? ⟨gv, q, none⟩ = some (.pointer (some ⟨y.1, 0, none⟩)) := fun q y hy => by
          have h5 := hrow'.cellAt q (by rw [← hme, Nat.mul_one]; exact (List.getElem?_eq_some_iff.1 hy).1)
          rw [h5]
          simp [List.getElem?_map, hy]
        have hPr := HPV.out.new hF.out
        have hrl : ∀ b, Uni RP RQ RL RD' f b → b < V0.heap.size := fun b hb => HPV.out.lt hb
        have hwr := write_anyC hPr.pool hPr.und hPr.ap ys (some ⟨gv, 0, none⟩) cv HYm.out (fun _ => ⟨gv, rfl, fun e => by
          rcases e with e | e | e | e | e
          · have := hrl gv (.inl e); omega
          · have := hrl gv (.inr (.inr (.inl e))); omega
          · have := hrl gv (.inr (.inr (.inr (.inl e)))); omega
          · have := hrl f (.inr (.inr (.inr (.inr rfl)))); omega
          · omega, hcv⟩) (by omega) (by omega) HYd.out hPr.views.ok (fun y hy => hPr.kk y (HYm.out y hy)) (by have := hPr.tm; have := hPr.M1; omega)
        have HWr := Lib.hid hwr
        have HPr := Lib.hid hPr
        have HF := Lib.hid hF.out
        have hF := hF.out
        have c0 := (hF.cell (p := ⟨z, 0, none⟩) zz (fun h => h)).trans c0
        have zz' := cell_lt c0
        have HB1r := Lib.hid ((HB1.out.fr HFV.out (HHn.out (z + 1) (by omega) (by omega))).fr hF (fun h => h))
        clear hrow hrow' hF hcv hPr hwr hme
        gi_wp2_with fail
        have hje := HYl.out
        subst hje
        refine ⟨trivial, (((callsIn_wide (n := 3)).2 HWr.out).inRound _).mono ?_⟩
        rintro e w8 (⟨rfl, L8, S8, RD8, hp8, hu8, hs8, hsub8, hf8⟩ | ⟨rfl, S8, RD8, hd8, hsf8, hsub8, hf8⟩)
        rotate_left
        · have hzr : V0.heap.size ≤ wr.heap.size := HF.out.size
          have hzz2 := HZV.out
          have hfM : Fr (fun b => Uni RP RQ RL RD f b ∨ w2.heap.size + 2 ≤ b) V0 w8 := (HF.out.mono (fun _ _ h => h.elim) : Fr (fun b => Uni RP RQ RL RD f b ∨ w2.heap.size + 2 ≤ b) V0 wr).trans (hf8.mono (fun b _ e => by
            rcases e with e | e | e | e
            · exact .inl (.inl e)
            · exact .inl (.inr (.inr (.inl e)))
            · rcases h3.out b e with e | e
              · exact .inl (.inr (.inr (.inr (.inl e))))
              · exact .inr e
            · exact .inl (.inr (.inr (.inr (.inr e))))))
          have hb1 := HB1r.out.fr hf8 (fun e => by
            rcases e with e | e | e | e
            · exact HHn.out (z + 1) (by omega) (by omega) (.inl (.inl e))
            · exact HHn.out (z + 1) (by omega) (by omega) (.inl (.inr (.inr (.inl e))))
            · rcases h3.out _ e with e | e
              · exact HHn.out (z + 1) (by omega) (by omega) (.inl (.inr (.inr (.inr (.inl e)))))
              · omega
            · exact HHn.out (z + 1) (by omega) (by omega) (.inl (.inr (.inr (.inr (.inr e))))))
          have c1 := hb1.cell 0
          have f1 := hb1.frozen 0
          have z1 := hb1.lt
          simp only [List.getElem?_toArray, List.getElem?_cons_zero] at c1
          have HB8 := Lib.hid hb1
          have HD8 := Lib.hid hd8
          have HSf8 := Lib.hid hsf8
          have HSub8 := Lib.hid hsub8
          have HFM := Lib.hid hfM
          clear hb1 hd8 hsf8 hsub8 hfM hf8 HWr HPr
          gi_wp2
          have hf9 : Fr (fun b => b = z + 1) w8 (w8.setCell ⟨z + 1, 0, none⟩ (.int .i64 50)) := (Fr.refl (fun b => b = z + 1) w8).setCell (p := ⟨z + 1, 0, none⟩) (.inr rfl) _
          have hc9 := (HB8.out.set_ 0 (.int .i64 50)).cell 0
          simp only [RetPost]
          refine ⟨(HFM.out.mono (fun _ _ e => .inl e)).trans (hf9.mono (fun _ _ e => .inr e)), (by show _ = _; simpa using hc9), ⟨S8, RD8, HD8.out.fr hf9 (fun b hb e => ?_), HSf8.out, fun b hb => ?_⟩, ?_⟩
          · subst e
            rcases HSub8.out _ hb with e | e
            · rcases h3.out _ e with e | e
              · exact HHn.out (z + 1) (by omega) (by omega) (.inl (.inr (.inr (.inr (.inl e)))))
              · omega
            · omega
          · rcases HSub8.out b hb with e | e
            · exact h3.out b e
            · exact .inr (by omega)
          · exact (HFV.out.mono (fun b _ e => e.imp .inl id)).trans ((HFM.out.mono (fun b _ e => by
              rcases e with e | e
              · exact .inl (.inl e)
              · exact .inr (by omega))).trans (hf9.mono (fun b _ e => .inl (.inr e))))
        have hin8 := HPr.out.wroteL ys HYm.out HYd.out (by omega) hs8 hp8 hu8 hsub8
        rw [← HGs.out, cleanF_append, HCat.out] at hin8
        have HIn8 := Lib.hid hin8
        have HS8 := Lib.hid hs8
        have HSub8 := Lib.hid hsub8
        have HF8 := Lib.hid hf8
        clear hin8 hp8 hu8 hs8 hsub8 hf8 HWr HPr
        gi_wp2
        have hzz2 := HZV.out
        have hzr : V0.heap.size ≤ wr.heap.size := HF.out.size
        have hfM : Fr (fun b => Uni RP RQ RL RD f b ∨ w2.heap.size + 2 ≤ b) V0 w8 := (HF.out.mono (fun _ _ h => h.elim) : Fr (fun b => Uni RP RQ RL RD f b ∨ w2.heap.size + 2 ≤ b) V0 wr).trans (HF8.out.mono (fun b _ e => by
          rcases e with e | e | e | e
          · exact .inl (.inl e)
          · exact .inl (.inr (.inr (.inl e)))
          · rcases h3.out b e with e | e
            · exact .inl (.inr (.inr (.inr (.inl e))))
            · exact .inr e
          · exact .inl (.inr (.inr (.inr (.inr e))))))
        simp only [RetPost]
        refine ⟨hfM, L8, S8, T' + 1, ys.map (·.2.x), RD8, ⟨curW cur' (ys.map (·.2.x)) ys.length, ?_⟩, h2.out.trans HS8.out, fun b hb => ?_, HFV.out.trans (hfM.mono (fun b _ e => e.imp id (fun e => by omega)))⟩
        · rw [HK.out, ← List.map_take]
          exact HIn8.out
        · rcases HSub8.out b hb with e | e
          · exact h3.out b e
          · exact .inr (by omega)
end
end Go.Proofs.YtccmmnacejdeoaaGreatDoor
