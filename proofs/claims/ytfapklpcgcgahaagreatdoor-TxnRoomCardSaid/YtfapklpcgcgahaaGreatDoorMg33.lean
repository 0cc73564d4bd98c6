/-
  TxnBegin, Tells, WalAll, Ranged, TxnRec, TxnOpen, in one text.
-/
import Derived.Test.YtfapklpcgcgahaaGreatDoorMg32
import Derived.RangeFuncNested
import Derived.Test.YtfapklpcgcgahaaGreatDoorMg03
import Derived.Test.YtfapklpcgcgahaaGreatDoorMg11
import Derived.Test.YtfapklpcgcgahaaGreatDoorMg05
/-
  Begin, where the log has room enough.
-/
namespace Go.Proofs.YtfapklpcgcgahaaGreatDoor
set_option linter.unusedSimpArgs false
set_option linter.unusedVariables false
open Go.RowKit Go.Maps

section
variable {RS RO U : Nat → Prop} {w : World} {s pages M K : Nat} {T : TS}
set_option maxHeartbeats 3200000 in
set_option maxRecDepth 100000 in
theorem Begin_tx (h : TxIn RS RO U w s pages M K T) (hbz : T.busy = false) (hroom : 48 * ((T.L.n : Int) - 8) - 48 * ((T.L.n : Int) - 8) / 16 ≤ T.L.room) (hn : T.L.n ≤ 32768) :
    Calls Tryz.prog 15 #[.pointer (some ⟨s, 0, none⟩)] w fun e w' => e = .returned (.int .i64 0) ∧ ∃ RS', TxIn RS' RO U w' s pages M K { T with busy := true, cv := .slice none 0 0, sv := .slice none 0 0, cms := [], ss := [], last := 0 } ∧ Subs RS RS' RO RO U U w w' := by
  have HDead := Lib.hid h.pool.dead
  have hn16 := h.n16
  have HRoom : Hid (∀ k, Calls Tryz.prog 39 #[.pointer (some ⟨T.l, 0, none⟩)] (w.drewN k) fun e w' => e = .returned (.int .i64 T.L.room) ∧ w.drewN k = w') := fun k => (h.pool.new ((Fr.refl _ w).drewN k)).room
  have HSize : Hid (∀ k, Calls Tryz.prog 40 #[.pointer (some ⟨T.l, 0, none⟩)] (w.drewN k) fun e w' => e = .returned (.int .i64 (48 * ((T.L.n : Int) - 8))) ∧ w.drewN k = w') := fun k => (h.pool.new ((Fr.refl _ w).drewN k)).size
  have hrm := h.pool.nx.2.2.1
  obtain ⟨sz, hsz⟩ : ∃ z : Nat, 48 * ((T.L.n : Int) - 8) = (z : Int) := ⟨(48 * (T.L.n - 8)), by omega⟩
  have hszb : sz ≤ 2000000 := by omega
  rw [hsz] at hroom HSize
  obtain ⟨rm, hrme⟩ : ∃ z : Nat, T.L.room = (z : Int) := ⟨T.L.room.toNat, by omega⟩
  rw [hrme] at hroom HRoom hrm
  have e16 : Int.tdiv (sz : Int) 16 = (sz : Int) / 16 := by rw [Int.tdiv_eq_ediv_of_nonneg (by omega)]
  obtain ⟨q16, hq16⟩ : ∃ q : Nat, (sz : Int) / 16 = (q : Int) := ⟨sz / 16, by omega⟩
  rw [hq16] at hroom e16
  have hqb : (q16 : Int) ≤ sz := by omega
  have HIn := Lib.hid h
  have c0 := h.cell 0
  have c2 := h.cell 2
  have c4 := h.cell 4
  have zs := h.blk.lt
  simp only [TS.cells, List.getElem?_toArray, List.getElem?_cons_zero, List.getElem?_cons_succ, hbz] at c0 c2 c4
  clear h hsz hrme hbz hn16 hq16
  go_enter Tryz.func15, Tryz.ntmps15
  go_wp2_with fail
  refine HDead.out.mono ?_
  rintro e w0 ⟨rfl, rfl⟩
  go_wp2_with fail
  go_quiet ((first | (go_at_call 39; exact quiet_eq (HRoom.out _)) | (go_at_call 40; exact quiet_eq (HSize.out _))))
  have hfq : Fr Nob w (w.drewN nq) := (Fr.refl _ w).drewN nq
  have h1 := HIn.out.new hfq
  generalize w.drewN nq = w1 at *
  have d4 := h1.cell 4
  have d5 := h1.cell 5
  have d6 := h1.cell 6
  have d7 := h1.cell 7
  have d8 := h1.cell 8
  have q4 := h1.blk.frozen 4
  have q5 := h1.blk.frozen 5
  have q6 := h1.blk.frozen 6
  have q7 := h1.blk.frozen 7
  have q8 := h1.blk.frozen 8
  have z1 := h1.blk.lt
  simp only [TS.cells, List.getElem?_toArray, List.getElem?_cons_zero, List.getElem?_cons_succ] at d4 d5 d6 d7 d8
  have H1 := Lib.hid h1
  have HFq := Lib.hid hfq
  have hnlt : ¬ ((rm : Int) < (sz : Int) - (q16 : Int)) := by omega
  clear h1 hfq HRoom HSize HDead c0 c2 c4 zs
  go_wp2
  go_ret
  have hb := (((((H1.out.blk.set_ 4 (.bool true)).set_ 5 (.slice none 0 0)).set_ 6 (.slice none 0 0)).set_ 7 (.int .i64 0)).set_ 8 (.int .i64 0))
  have hf3 : Fr (fun k => k = s) w1 (((((w1.setCell ⟨s, 4, none⟩ (.bool true)).setCell ⟨s, 5, none⟩ (.slice none 0 0)).setCell ⟨s, 6, none⟩ (.slice none 0 0)).setCell ⟨s, 7, none⟩ (.int .i64 0)).setCell ⟨s, 8, none⟩ (.int .i64 0)) :=
    (((((Fr.refl (fun k => k = s) w1).setCell (p := ⟨s, 4, none⟩) (.inr rfl) _).setCell (p := ⟨s, 5, none⟩) (.inr rfl) _).setCell (p := ⟨s, 6, none⟩) (.inr rfl) _).setCell (p := ⟨s, 7, none⟩) (.inr rfl) _).setCell (p := ⟨s, 8, none⟩) (.inr rfl) _
  have h3 := H1.out.turn hf3 (fun b _ e => (show b = s from e) ▸ H1.out.rs) true (.slice none 0 0) (.slice none 0 0) [] [] 0 T.undone
    (by simp only [TS.cells, TS.cs, List.setIfInBounds_toArray, List.set_cons_zero, List.set_cons_succ] at hb ⊢; exact hb)
    (World.ownsRow_nil _ _ _ _) (World.ownsRow_nil _ _ _ _) (fun g hg => by simp [Value.ownBlock] at hg) (fun g hg => by simp [Value.ownBlock] at hg) (fun x hx => by simp at hx) (Nat.zero_le _) (Nat.zero_le _) (Nat.zero_le _) H1.out.n4
  refine ⟨rfl, _, h3, fun b hb => ?_, fun b hb => .inl hb, fun b hb => .inl hb, ?_⟩
  · rcases hb with hb | hb | hb
    · exact .inl hb
    · simp [Value.ownBlock] at hb
    · simp [Value.ownBlock] at hb
  · refine (HFq.out.mono (fun _ _ h => h.elim)).step hf3 (fun i hi e => ?_)
    have e : i = s := e
    exact .inl (e ▸ HIn.out.rs)
end
end Go.Proofs.YtfapklpcgcgahaaGreatDoor

/-
  The closure that All hands back: it yields a copy of each record, by its number.
-/
namespace Go.Proofs.YtfapklpcgcgahaaGreatDoor
set_option linter.unusedSimpArgs false
set_option linter.unusedVariables false
open Go.RowKit Go.Shelf
attribute [local go_sem] Oper.semAt_some

section
variable {R : Nat → Prop} {w : World} {p d : Nat} {L : LS}
/-- All boxes the log, and hands back its closure. -/
theorem All_any (h : LogOk R w p d L) : Calls Tryz.prog 65 #[.pointer (some ⟨p, 0, none⟩)] w fun e w' => e = .returned (.func (.func 106) #[] #[.pointer (some ⟨w.heap.size, 0, none⟩)]) ∧ w' = w.alloc (.cells #[.pointer (some ⟨p, 0, none⟩)] 71) := by
  clear h
  go_enter Tryz.func65, Tryz.ntmps65
  go_wp2
  go_ret
  exact ⟨rfl, rfl⟩
end
/-- The records of a log, by their numbers. -/
def LS.recs (L : LS) : List (Nat × List UInt8) := L.l.mapIdx fun i r => (L.first + i, r.1)




end Go.Proofs.YtfapklpcgcgahaaGreatDoor

/-
  A range over a function that hands over a known row, one by one (Yields); no round leaves it early. The rounds may change the blocks M, all but the loop's own two.
-/
namespace Go.Proofs.YtfapklpcgcgahaaGreatDoor
set_option linter.unusedSimpArgs false
set_option linter.unusedVariables false
open Go.RowKit

theorem wide_fn (f : FuncId) : Fence.wide.fn f := trivial
/-- An iterator that yields xs, one by one, where a round may change M. -/
def Yields {α : Type} (n : Nat) (P : Program) (g : Nat) (lb : Array Value) (encs : α → Array Value) (M : Nat → Prop) (xs : List α) (W : World) : Prop :=
  ∀ (l : Nat) (J : List α → World → Prop), (∀ pre U V, J pre U → Fr Nob U V → J pre V) →
    (∀ pre x suf U, pre ++ x :: suf = xs → J pre U → Fr M W U → YieldAt Fence.wide (n - 1) P l (encs x) U fun e V => e = .returned (.bool true) ∧ J (pre ++ [x]) V ∧ Fr M U V) →
    J [] W → CallsIn Fence.wide n P g (#[.func (.yield l) #[] #[]] ++ lb) W fun e V => (∃ v, e = .returned v) ∧ J xs V

section
variable {n : Nat} {P : Program}
theorem ranged_round {fn : FuncId} {tmps : Array Value} {ps : Array Tmp} {assign body : Code} {l D : Nat} {args : Array Value} {M : Nat → Prop} {J' : World → Prop} {U : World}
    (hMl : ¬ M l) (hMD : ¬ M D) (hDl : D < l) (rec : LoopState → Option Code → Loop) (hrec : rec = fun st pe => { state := st, pending := pe, fn := fn, tmps := tmps, params := ps, assign := assign, body := body, defers := D })
    (hl : U.heap[l]? = some (.loop (rec .ready none))) (hD : U.heap[D]? = some (.deferred (some []))) (hargs : args.size = ps.size)
    (hJ' : ∀ V V', J' V → Fr (fun b => b = D ∨ b = l) V V' → J' V')
    (h : assign.wpIn (Fence.wide.inRound l) n P (Exit.then (fun a₁ W₁ => W₁ = U ∧ body.wpIn (Fence.wide.inRound l) n P (OnlyNormal fun _ V => Fr M (U.putObj l (.loop (rec .busy none))) V ∧ J' V) a₁ (U.putObj l (.loop (rec .busy none)))) (fun _ _ _ => False))
      { tmps := (ps.zip args).foldl (fun t (p, v) => t.setIfInBounds p v) tmps, defers := [] } U) :
    YieldAt Fence.wide n P l args U fun e V => e = .returned (.bool true) ∧ (J' V ∧ V.heap[l]? = some (.loop (rec .ready none)) ∧ V.heap[D]? = some (.deferred (some []))) ∧ Fr (fun b => M b ∨ b = l) U V := by
  have hy := run_yield (P := P) (args := args) hl (by rw [hrec]; exact hargs)
  rw [hrec] at hy
  refine ⟨fn, _, assign, body, hy, roundIn_of_wpIn (wide_fn fn) (wpIn_mono h ?_)⟩
  intro e a₁ W₁ hq
  cases e with
  | normal =>
    obtain ⟨rfl, hb⟩ := hq
    have hlt : l < W₁.heap.size := (Array.getElem?_eq_some_iff.1 hl).1
    refine ⟨_, run_beginRound hl (by rw [hrec]), ?_⟩
    have hb' := hb
    rw [hrec] at hb' ⊢
    refine wpIn_mono hb' ?_
    intro e a₂ V hq2
    cases e with
    | normal =>
      obtain ⟨hf2, hj⟩ := hq2
      have hb1 : (W₁.putObj l (.loop (rec .busy none))).heap[l]? = some (.loop (rec .busy none)) := World.putObj_heap_same hlt
      have hsz : (W₁.putObj l (.loop (rec .busy none))).heap.size = W₁.heap.size := by simp [World.putObj]
      rw [hrec] at hb1 hsz
      have hl2 := (hf2.block l (by omega) hMl).trans hb1
      have hDlt : D < W₁.heap.size := (Array.getElem?_eq_some_iff.1 hD).1
      have hD2 := (hf2.block D (by omega) hMD).trans ((World.putObj_heap_other (by omega)).trans hD)
      have hend := run_endRound (P := P) none hl2
      have hlt2 : l < V.heap.size := (Array.getElem?_eq_some_iff.1 hl2).1
      have hfl : ∀ (W : World) (o : Obj), Fr (fun b => b = l) W (W.putObj l o) := fun W o => (Fr.refl _ W).grown (grownBy_putObj' W l o) (fun r e => by cases e; exact .inr rfl)
      refine ⟨_, _, hend, rfl, ⟨hJ' _ _ hj ((hfl V _).mono (fun _ _ e => .inr e)), ?_, (World.putObj_heap_other (by omega)).trans hD2⟩, ?_⟩
      · rw [World.putObj_heap_same hlt2]; rfl
      · exact (((hfl W₁ _).mono (fun _ _ e => .inr e)).trans (hf2.mono (fun _ _ e => .inl e))).trans ((hfl V _).mono (fun _ _ e => .inr e))
    | ret | exit _ | goto _ | panic _ | outgrown => exact hq2.elim
  | ret | exit _ | goto _ | panic _ | outgrown => exact hq.elim
/-- The statement. -/
theorem ranged {α : Type} {g : Operand} {ps : Array Tmp} {assign body : Code} {Q : Exit → Act → World → Prop} {a : Act} {w : World}
    (h1 : 1 ≤ n) {gf : Nat} {lb : Array Value} (hg : a.eval g = .func (.func gf) #[] lb) (eg : ∀ args w, (callFunc gf args).run P w = .ok (.enter gf args) w)
    {encs : α → Array Value} {M : Nat → Prop} {xs : List α} (hM : ¬ M w.heap.size ∧ ¬ M (w.heap.size + 1)) (hseq : ∀ W, Fr Nob w W → Yields (n - 1) P gf lb encs (fun b => M b ∨ b = w.heap.size + 1) xs W) (hps : ∀ x, (encs x).size = ps.size)
    (I : List α → World → Prop) (hI : ∀ pre U V, I pre U → Fr (fun b => b = w.heap.size ∨ b = w.heap.size + 1) U V → I pre V) (h0 : I [] w)
    (hround : ∀ pre x suf U (rec : LoopState → Option Code → Loop), pre ++ x :: suf = xs → I pre U → Fr (fun b => M b ∨ b = w.heap.size + 1) w U → w.heap.size + 2 ≤ U.heap.size →
      assign.wpIn (Fence.wide.inRound (w.heap.size + 1)) (n - 1 - 1) P (Exit.then (fun a₁ W₁ => W₁ = U ∧ body.wpIn (Fence.wide.inRound (w.heap.size + 1)) (n - 1 - 1) P (OnlyNormal fun _ V => Fr M (U.putObj (w.heap.size + 1) (.loop (rec .busy none))) V ∧ I (pre ++ [x]) V) a₁ (U.putObj (w.heap.size + 1) (.loop (rec .busy none)))) (fun _ _ _ => False))
        { tmps := (ps.zip (encs x)).foldl (fun t (p, v) => t.setIfInBounds p v) a.tmps, defers := [] } U)
    (hdone : ∀ W : World, I xs W → W.heap[w.heap.size]? = some (.deferred (some [])) → Q .normal { a with defers := { target := .collected w.heap.size, args := #[] } :: a.defers } W) :
    (Code.rangeFunc g ps assign body).wpIn Fence.wide n P Q a w := by
  refine wpIn_rangeFunc ?_
  intro fn hfn
  rw [show (Fence.wide).round = none from rfl]
  obtain ⟨rec, hrec⟩ : ∃ rec : LoopState → Option Code → Loop, rec = fun st pe => { state := st, pending := pe, fn := fn, tmps := a.tmps, params := ps, assign := assign, body := body, defers := w.heap.size } := ⟨_, rfl⟩
  obtain ⟨W1, hW1⟩ : ∃ W1, (w.alloc (.deferred (some []))).alloc (.loop (rec .ready none)) = W1 := ⟨_, rfl⟩
  have hz : W1.heap.size = w.heap.size + 2 := by rw [← hW1]; simp
  have hL : W1.heap[w.heap.size + 1]? = some (.loop (rec .ready none)) := by
    have := World.alloc_heap_new (w.alloc (.deferred (some []))) (.loop (rec .ready none))
    rw [World.size_alloc] at this
    rwa [hW1] at this
  have hD : W1.heap[w.heap.size]? = some (.deferred (some [])) := by
    rw [← hW1]; exact (Below.heap_alloc _ _ _ (by simp)).trans (World.alloc_heap_new w _)
  have hf1 : Fr Nob w W1 := by rw [← hW1]; exact ((Fr.refl _ w).alloc _).alloc _
  refine ⟨w.heap.size + 1, [{ target := .collected w.heap.size, args := #[] }], W1, { target := .fn (.func gf) lb, args := #[.func (.yield (w.heap.size + 1)) #[] #[]] }, W1, gf, #[.func (.yield (w.heap.size + 1)) #[] #[]] ++ lb, W1, ?_, ?_, ?_, ?_, fun _ => h1, ?_⟩
  · rw [← hW1, hrec]; exact run_enterLoop_outer _ _ _ _ _
  · simp only [resolve, hg]
    simp [go_sem]
  · intro f' hf'
    simp [Target.leads] at hf'
    subst hf'
    exact wide_fn gf
  · simp [invoke, go_sem, eg]
  · refine (hseq W1 hf1 (w.heap.size + 1) (fun pre W => I pre W ∧ W.heap[w.heap.size + 1]? = some (.loop (rec .ready none)) ∧ W.heap[w.heap.size]? = some (.deferred (some []))) ?_ ?_ ⟨hI _ _ _ h0 (hf1.mono (fun _ _ h => h.elim)), hL, hD⟩).mono ?_
    · intro pre U V hs hf
      exact ⟨hI _ _ _ hs.1 (hf.mono (fun _ _ h => h.elim)), (hf.block _ (Array.getElem?_eq_some_iff.1 hs.2.1).1 (fun h => h)).trans hs.2.1, (hf.block _ (Array.getElem?_eq_some_iff.1 hs.2.2).1 (fun h => h)).trans hs.2.2⟩
    · rintro pre x suf U he ⟨hi, hl, hd⟩ hfU
      exact ranged_round hM.2 hM.1 (Nat.lt_succ_self _) rec hrec hl hd (hps x) (fun V V' hv hf => hI _ _ _ hv hf) (hround pre x suf U rec he hi (hf1.mono (fun _ _ h => h.elim) |>.trans hfU) (by have := hfU.size; omega))
    · rintro e W2 ⟨⟨v, rfl⟩, hi, hl, hd⟩
      have hend := run_endLoop (P := P) hl (by rw [hrec]; simp)
      rw [hrec] at hend
      have hlt : w.heap.size + 1 < W2.heap.size := (Array.getElem?_eq_some_iff.1 hl).1
      refine ⟨none, _, hend, hdone _ (hI _ _ _ hi ((Fr.refl _ W2).grown (grownBy_putObj' W2 _ _) (fun r e => by cases e; exact .inr (.inr rfl)))) ((World.putObj_heap_other (by omega)).trans hd)⟩
end
end Go.Proofs.YtfapklpcgcgahaaGreatDoor

/-
  recover, where the log is empty.
-/
namespace Go.Proofs.YtfapklpcgcgahaaGreatDoor
set_option linter.unusedSimpArgs false
set_option linter.unusedVariables false
open Go.RowKit Go.Maps Go.Shelf
attribute [local go_sem] Oper.semAt_some

set_option maxHeartbeats 1600000 in
set_option maxRecDepth 100000 in
theorem All1_empty (n l Bk p d : Nat) (R : Nat → Prop) (L : LS) (W : World) (hL : LogOk R W p d L) (hl : L.l = []) (hbk : Blk W Bk 71 #[.pointer (some ⟨p, 0, none⟩)]) :
    CallsIn Fence.wide n Tryz.prog 106 #[.func (.yield l) #[] #[], .pointer (some ⟨Bk, 0, none⟩)] W fun e V => (∃ v, e = .returned v) ∧ Fr Nob W V := by
  obtain ⟨lv, rv, hL⟩ := hL
  obtain ⟨A, c, hlv⟩ : ∃ A c, lv = .slice A 0 c := by
    have hown := hL.own
    rw [hl] at hown
    rcases hown.2 with ⟨e, e2⟩ | ⟨g, o, cap, cur, e, _⟩
    · exact ⟨_, _, e⟩
    · exact ⟨_, _, e⟩
  have q0 : W.cell? ⟨Bk, 0, none⟩ = some (.pointer (some ⟨p, 0, none⟩)) := hbk.cell 0
  have q6 : W.cell? ⟨p, 6, none⟩ = some (.slice A 0 c) := by rw [← hlv]; exact hL.blk.cell 6
  have hpz := hL.blk.lt
  have hbz := hbk.lt
  clear hL hlv hbk
  refine callsIn_of_wp Tryz.func106 rfl trivial ?_ rfl
  simp only [Tryz.ntmps106, List.size_toArray, List.length_cons, List.length_nil, Nat.reduceAdd, Nat.reduceSub, Array.replicate_succ, Array.replicate_zero, List.push_toArray, List.append_toArray, List.nil_append, List.cons_append]
  gi_wp2
  gi_loopw [10] (fun i wr => i = .int .i64 0 ∧ W = wr) (fun _ _ => 0)
  case atStart => exact ⟨rfl, rfl⟩
  case round =>
    obtain ⟨rfl, rfl⟩ := hrel
    gi_wp2
    go_end0
    exact ⟨⟨_, rfl⟩, Fr.refl _ _⟩
section
variable {RS RO U : Nat → Prop} {w : World} {s pages M K : Nat} {T : TS}
theorem PoolOk.all_ {p f l d pages : Nat} {frames : Int} {V : Nat → PgV} {L : LS} {M N : Nat} {Dt : Nat → Prop} (h : PoolOk U w p f l d pages frames V L M N Dt) : Calls Tryz.prog 65 #[.pointer (some ⟨l, 0, none⟩)] w fun e w' => e = .returned (.func (.func 106) #[] #[.pointer (some ⟨w.heap.size, 0, none⟩)]) ∧ w' = w.alloc (.cells #[.pointer (some ⟨l, 0, none⟩)] 71) := by
  obtain ⟨RP, RQ, RL, RD, hand, B, rv, fs, cur, S, T, lot, L', h1, h2, h3, h4⟩ := h
  exact All_any h1.und.log
theorem PoolOk.log_ {p f l d pages : Nat} {frames : Int} {V : Nat → PgV} {L : LS} {M N : Nat} {Dt : Nat → Prop} (h : PoolOk U w p f l d pages frames V L M N Dt) : ∃ RL L', LogOk RL w l d L' ∧ L'.l = L.l := by
  obtain ⟨RP, RQ, RL, RD, hand, B, rv, fs, cur, S, T, lot, L', h1, h2, h3, h4⟩ := h
  exact ⟨RL, L', h1.und.log, h2.l⟩
set_option maxHeartbeats 6400000 in
set_option maxRecDepth 100000 in
theorem Recover_fresh (h : TxIn RS RO U w s pages M K T) (hl : T.L.l = []) (hfn : T.L.first = T.L.next) :
    Calls Tryz.prog 36 #[.pointer (some ⟨s, 0, none⟩)] w fun e w' => e = .returned (.int .i64 0) ∧ Fr Nob w w' := by
  have qL : ∀ (w : World) (A : Option Addr) (n c : Nat), (Builtin.len_ #[78] 3 #[Value.slice A n c]).run Tryz.prog w = .ok (.int .i64 n) w := fun w A n c => by go_simp
  have HIn := Lib.hid h
  have HL0 := Lib.hid hl
  have HFn := Lib.hid hfn
  obtain ⟨z, hz⟩ : ∃ z, w.heap.size = z := ⟨_, rfl⟩
  have HZ := Lib.hid hz
  clear h hl hz hfn
  refine (callsIn_wide (n := 6)).1 ?_
  refine callsIn_of_wp_marks Tryz.func36 rfl trivial ?_ rfl
  simp only [Tryz.ntmps36, List.size_toArray, List.length_cons, List.length_nil, Nat.reduceAdd, Nat.reduceSub, Array.replicate_succ, Array.replicate_zero, List.push_toArray, List.append_toArray, List.nil_append, List.cons_append]
  refine wpIn_wide.2 ?_
  have hfa : Fr Nob w (((w.alloc (.cells #[.pointer (some ⟨s, 0, none⟩)] 26)).alloc (.cells #[.int .i64 0] 23)).alloc (.cells #[.slice none 0 0] 78)) := (((Fr.refl _ w).alloc _).alloc _).alloc _
  have hza : (((w.alloc (.cells #[.pointer (some ⟨s, 0, none⟩)] 26)).alloc (.cells #[.int .i64 0] 23)).alloc (.cells #[.slice none 0 0] 78)).heap.size = z + 3 := by simp [HZ.out]
  have hb0 : Blk (((w.alloc (.cells #[.pointer (some ⟨s, 0, none⟩)] 26)).alloc (.cells #[.int .i64 0] 23)).alloc (.cells #[.slice none 0 0] 78)) z 26 #[.pointer (some ⟨s, 0, none⟩)] := by
    rw [← HZ.out]; exact ((Blk.new w _ _).alloc _).alloc _
  have hb1 : Blk (((w.alloc (.cells #[.pointer (some ⟨s, 0, none⟩)] 26)).alloc (.cells #[.int .i64 0] 23)).alloc (.cells #[.slice none 0 0] 78)) (z + 1) 23 #[.int .i64 0] := by
    have := Blk.new (w.alloc (.cells #[.pointer (some ⟨s, 0, none⟩)] 26)) 23 #[.int .i64 0]
    rw [World.size_alloc, HZ.out] at this
    exact this.alloc _
  have hb2 : Blk (((w.alloc (.cells #[.pointer (some ⟨s, 0, none⟩)] 26)).alloc (.cells #[.int .i64 0] 23)).alloc (.cells #[.slice none 0 0] 78)) (z + 1 + 1) 78 #[.slice none 0 0] := by
    have := Blk.new ((w.alloc (.cells #[.pointer (some ⟨s, 0, none⟩)] 26)).alloc (.cells #[.int .i64 0] 23)) 78 #[.slice none 0 0]
    rw [World.size_alloc, World.size_alloc, HZ.out] at this
    exact this
  obtain ⟨wa, hwa⟩ : ∃ W, ((w.alloc (.cells #[.pointer (some ⟨s, 0, none⟩)] 26)).alloc (.cells #[.int .i64 0] 23)).alloc (.cells #[.slice none 0 0] 78) = W := ⟨_, rfl⟩
  rw [hwa] at hfa hza hb0 hb1 hb2
  have ha := HIn.out.new hfa
  have HAll := Lib.hid ha.pool.all_
  have c2 := ha.cell 2
  have zs := ha.blk.lt
  have b0 := hb0.cell 0
  simp only [TS.cells, List.getElem?_toArray, List.getElem?_cons_zero, List.getElem?_cons_succ] at c2 b0
  have z0 := hb0.lt
  have HA := Lib.hid ha
  have HB0 := Lib.hid hb0
  have HB1 := Lib.hid hb1
  have HB2 := Lib.hid hb2
  have HFa := Lib.hid hfa
  have HZa := Lib.hid hza
  have hzi := HZ.out
  clear ha hb0 hb1 hb2 hfa hza
  go_wp2_with fail
  go_step3
  go_wp2_with fail
  try go_step3
  try go_wp2_with fail
  refine HAll.out.mono ?_
  rintro e w2 ⟨rfl, hw2⟩
  have hf2 : Fr Nob wa w2 := by rw [hw2]; exact (Fr.refl _ wa).alloc _
  have hz2 : w2.heap.size = z + 4 := by rw [hw2, World.size_alloc, HZa.out]
  have hbk : Blk w2 (z + 3) 71 #[.pointer (some ⟨T.l, 0, none⟩)] := by rw [hw2, ← HZa.out]; exact Blk.new _ _ _
  have h2 := HA.out.new hf2
  have hb0 := HB0.out.fr hf2 (fun h => h)
  have hb1 := HB1.out.fr hf2 (fun h => h)
  have hb2 := HB2.out.fr hf2 (fun h => h)
  have H2 := Lib.hid h2
  have HB02 := Lib.hid hb0
  have HB12 := Lib.hid hb1
  have HB22 := Lib.hid hb2
  have HBk := Lib.hid hbk
  have HZ2 := Lib.hid hz2
  have HF2 := Lib.hid (HFa.out.trans hf2)
  have HWZ := HZa.out
  clear hw2 hf2 h2 hb0 hb1 hb2 hbk HAll
  go_wp2_with fail
  refine (wpIn_wide (n := 6)).1 ?_
  refine ranged (n := 6) (α := Unit) (by decide) (gf := 106) (lb := #[.pointer (some ⟨z + 3, 0, none⟩)]) rfl (enters_of Tryz.func106 (by kernel_rfl) rfl)
    (encs := fun _ => #[.int .u64 0, .slice none 0 0]) (M := fun _ => False) (xs := []) ⟨fun h => h, fun h => h⟩
    (fun W hW l J hst _ hJ => ?yields) (fun _ => rfl)
    (fun _ W => Fr (fun b => b = w2.heap.size ∨ b = w2.heap.size + 1) w2 W)
    ?stable ?start ?round ?done
  case yields =>
    obtain ⟨RL, L', hlo, hle⟩ := (H2.out.pool.new hW).log_
    exact (All1_empty _ l (z + 3) T.l T.d RL L' W hlo (hle.trans HL0.out) (HBk.out.fr hW (fun h => h))).mono (fun e V ⟨hv, hf⟩ => ⟨hv, hst _ _ _ hJ hf⟩)
  case stable => exact fun pre U V h hf => h.trans hf
  case start => exact Fr.refl _ _
  case round => exact fun pre x suf U rec h => absurd h (by simp)
  case done =>
    intro W hfW hD
    have h3 := H2.out.fr hfW (fun b hb e => by have := HIn.out.lts b hb; have := HZ2.out; omega) (fun b hb e => by have := HIn.out.lto b hb; have := HZ2.out; omega) (fun b hb e => by have := HIn.out.ltu b hb; have := HZ2.out; omega)
    have hb0 := HB02.out.fr hfW (fun e => by have := HZ2.out; omega)
    have hb1 := HB12.out.fr hfW (fun e => by have := HZ2.out; omega)
    have hb2 := HB22.out.fr hfW (fun e => by have := HZ2.out; omega)
    have o0 := hb2.cell 0
    have zo := hb2.lt
    simp only [List.getElem?_toArray, List.getElem?_cons_zero] at o0
    have H3 := Lib.hid h3
    have HB03 := Lib.hid hb0
    have HB13 := Lib.hid hb1
    have HFW := Lib.hid hfW
    have HD := Lib.hid hD
    clear h3 hb0 hb1 hb2 hfW hD
    go_wp2_with fail
    go_loopw [9] (fun i wr => i = .int .i64 (-1) ∧ W = wr) (fun _ _ => 0)
    case atStart => exact ⟨rfl, rfl⟩
    case round =>
      obtain ⟨rfl, rfl⟩ := hrel
      have c2 := H3.out.cell 2
      have zs := H3.out.blk.lt
      have e0 := HB03.out.cell 0
      have ze := HB03.out.lt
      simp only [TS.cells, List.getElem?_toArray, List.getElem?_cons_zero, List.getElem?_cons_succ] at c2 e0
      have HFst : Hid (∀ k, Calls Tryz.prog 69 #[.pointer (some ⟨T.l, 0, none⟩)] (W.drewN k) fun e w' => e = .returned (.int .u64 T.L.first) ∧ W.drewN k = w') := fun k => (H3.out.pool.new ((Fr.refl _ W).drewN k)).first
      have HNxt : Hid (∀ k, Calls Tryz.prog 70 #[.pointer (some ⟨T.l, 0, none⟩)] (W.drewN k) fun e w' => e = .returned (.int .u64 T.L.first) ∧ W.drewN k = w') := fun k => by rw [HFn.out]; exact (H3.out.pool.new ((Fr.refl _ W).drewN k)).next
      go_wp2_with fail
      go_quiet ((first | (go_at_call 69; exact quiet_eq (HFst.out _)) | (go_at_call 70; exact quiet_eq (HNxt.out _))))
      have hfq : Fr Nob W (W.drewN nq) := (Fr.refl _ W).drewN nq
      generalize hW4 : W.drewN nq = W4 at *
      have hb1 := HB13.out.fr hfq (fun h => h)
      have c0 := hb1.cell 0
      have f0 := hb1.frozen 0
      have z1 := hb1.lt
      simp only [List.getElem?_toArray, List.getElem?_cons_zero] at c0
      have HBe := Lib.hid hb1
      have hD4 : W4.heap[w2.heap.size]? = some (.deferred (some [])) := (hfq.block _ (Array.getElem?_eq_some_iff.1 HD.out).1 (fun h => h)).trans HD.out
      have HD4 := Lib.hid hD4
      have HFq := Lib.hid hfq
      clear hb1 hD4 hfq hW4 HFst HNxt c2 e0 ze zs o0 zo
      go_wp2
      rw [Exit.noGoto_ret]
      have hfW : Fr (fun b => b = z + 1) W4 (W4.setCell ⟨z + 1, 0, none⟩ (.int .i64 0)) := (Fr.refl (fun b => b = z + 1) W4).setCell (p := ⟨z + 1, 0, none⟩) (.inr rfl) _
      have hbE := HBe.out.set_ 0 (.int .i64 0)
      obtain ⟨W1, hW1⟩ : ∃ W1, W4.setCell ⟨z + 1, 0, none⟩ (.int .i64 0) = W1 := ⟨_, rfl⟩
      rw [hW1] at hfW hbE ⊢
      have hz2' := HZ2.out
      have hD1 : W1.heap[w2.heap.size]? = some (.deferred (some [])) := (hfW.block _ (Array.getElem?_eq_some_iff.1 HD4.out).1 (by omega)).trans HD4.out
      have hg5 := grownBy_putObj' W1 w2.heap.size (.deferred none)
      have hf5 : Fr (fun b => b = w2.heap.size) W1 (W1.putObj w2.heap.size (.deferred none)) := (Fr.refl _ W1).grown hg5 (fun r e => by cases e; exact .inr rfl)
      have hr := hbE.fr hf5 (by omega)
      have cr : (W1.putObj w2.heap.size (.deferred none)).cell? ⟨z + 1, 0, none⟩ = some (.int .i64 0) := by
        have := hr.cell 0
        simpa using this
      refine ⟨by simp, .inl ⟨_, _, rfl, run_takeDeferred hD1, ?_⟩⟩
      refine ⟨_, by simp [results, Tryz.results36, go_sem, cr], rfl, ?_⟩
      have hzz := HZ.out
      exact ((((HF2.out.step HFW.out (fun i hi e => by omega)).trans HFq.out).step hfW (fun i hi e => by
        have e : i = z + 1 := e
        omega)).step hf5 (fun i hi e => by
        have e : i = w2.heap.size := e
        omega))
end
end Go.Proofs.YtfapklpcgcgahaaGreatDoor

/-
  Open, on a new disk; Need.
-/
namespace Go.Proofs.YtfapklpcgcgahaaGreatDoor
set_option linter.unusedSimpArgs false
set_option linter.unusedVariables false
open Go.RowKit Go.Maps

set_option maxRecDepth 100000 in
theorem NeedT_any (pages log : Nat) (w : World) (h1 : 1 ≤ pages) (h2 : pages ≤ 100000) (h3 : log ≤ 100000) : Calls Tryz.prog 12 #[.int .i64 pages, .int .i64 log] w fun e w' => e = .returned (.int .i64 ((8 * pages + 80 + log : Nat) : Int)) ∧ w = w' := by
  have HNe := Lib.hid (Need_any pages w h2 h1)
  have HU : Hid (((8 * pages + 80 : Nat) : Int) + (log : Int) = ((8 * pages + 80 + log : Nat) : Int)) := by show _ = _; omega
  obtain ⟨x, hx⟩ : ∃ x : Nat, 8 * pages + 80 = x := ⟨_, rfl⟩
  rw [hx] at HNe HU
  rw [hx]
  obtain ⟨y, hy⟩ : ∃ y : Nat, x + log = y := ⟨_, rfl⟩
  rw [hy] at HU
  rw [hy]
  have hyb : y ≤ 1000000 := by omega
  have e1 : IntKind.i64.wrap ((x : Int) + (log : Int)) = (y : Int) := by rw [IntKind.wrap_i64]; omega
  have e2 : (x : Int) + (log : Int) = (y : Int) := by omega
  clear hx hy
  go_enter Tryz.func12, Tryz.ntmps12
  go_wp2_with fail
  refine HNe.out.mono ?_
  rintro e w' ⟨rfl, rfl⟩
  go_wp2
  go_ret
  exact ⟨by rw [← e2]; rfl, rfl⟩
def VZ : Nat → PgV := fun no => ⟨no, 0, zeros 480⟩
/-- A store that was just opened on a new disk. -/
def TS.fresh (d p l f pages log : Nat) (frames : Int) : TS := ⟨d, p, l, f, frames, VZ, LS.empty (8 * pages + 80) log, false, .slice none 0 0, .slice none 0 0, [], [], 0, 0⟩
set_option maxHeartbeats 6400000 in
set_option maxRecDepth 100000 in
theorem OpenT_good {R : Nat → Prop} {w : World} {d n pages log : Nat} {frames : Int} (hd : DiskOk R w d (DS.new n)) (h1 : 1 ≤ pages) (h2 : pages ≤ 4096) (h3 : 64 ≤ log) (h4 : log ≤ 16384) (h5 : 1 ≤ frames) (h6 : frames ≤ 64) (hn : 8 * pages + 80 + log ≤ n) (hn2 : n ≤ 65536) :
    Calls Tryz.prog 11 #[.pointer (some ⟨d, 0, none⟩), .int .i64 pages, .int .i64 log, .int .i64 frames] w fun e w' => ∃ s, e = .returned (.tuple #[.pointer (some ⟨s, 0, none⟩), .int .i64 0]) ∧ ∃ p l f RS U, TxIn RS (fun _ => False) U w' s pages 0 0 (TS.fresh d p l f pages log frames) ∧ (∀ b, RS b → w.heap.size ≤ b) ∧ (∀ b, U b → R b ∨ w.heap.size ≤ b) ∧ w.heap.size ≤ s ∧ Fr R w w' := by
  have hln : (DS.new n).now.length = n := (DS.new_facts n).1
  have hsec := Sectors_any hd
  rw [hln] at hsec
  have HSec := Lib.hid hsec
  have HNt := Lib.hid (NeedT_any pages log w h1 (by omega) (by omega))
  have HNe : Hid (∀ W, Calls Tryz.prog 34 #[.int .i64 pages] W fun e w' => e = .returned (.int .i64 (8 * pages + 80 : Nat)) ∧ W = w') := fun W => Need_any pages W (by omega) h1
  have HOp := Lib.hid (Open_fresh (pages := pages) hd h1 h2 (by omega))
  obtain ⟨nd, hnd⟩ : ∃ x : Nat, 8 * pages + 80 + log = x := ⟨_, rfl⟩
  have HNd := Lib.hid hnd
  rw [hnd] at HNt hn
  have hdlt : ∀ b, R b → b < w.heap.size := fun b hb => hd.lt hb
  have HDlt := Lib.hid hdlt
  have HD0 := Lib.hid hd
  clear hsec hd hln hnd hdlt
  go_enter Tryz.func11, Tryz.ntmps11
  go_wp2_with fail
  refine HSec.out.mono ?_
  rintro e w1 ⟨rfl, rfl⟩
  go_wp2_with fail
  refine HNt.out.mono ?_
  rintro e w1 ⟨rfl, rfl⟩
  have hnn : ¬ ((n : Int) < (nd : Int)) := by omega
  go_wp2_with fail
  refine HOp.out.mono ?_
  rintro e w2 ⟨f, R2, rfl, hf0, hf1, hfa2, hd2, hnf2, hsub2, hfr2⟩
  have HFile2 := Lib.hid hfa2
  have HNf2 := Lib.hid hnf2
  have HSub2 := Lib.hid hsub2
  have HFr2 := Lib.hid hfr2
  have hwal := Open_new (8 * pages + 80) log hd2 (by omega) (by omega) (by have := HNd.out; omega)
  have HWal := Lib.hid hwal
  have HD2 := Lib.hid hd2
  clear hfa2 hnf2 hsub2 hfr2 hd2 HOp hwal
  go_wp2_with fail
  refine (HNe.out _).mono ?_
  rintro e w3 ⟨rfl, rfl⟩
  go_wp2_with fail
  refine HWal.out.mono ?_
  rintro e w3 ⟨l, rfl, hl0, ⟨RL, RD, hwal, hRL, hRD⟩, hfr3⟩
  have HWi := Lib.hid hwal
  have HRL := Lib.hid hRL
  have HRD := Lib.hid hRD
  have HFr3 := Lib.hid hfr3
  have HPn := Lib.hid (PNew_good ⟨f, 0, none⟩ ⟨l, 0, none⟩ frames w3 h5 h6)
  clear hwal hRL hRD hfr3 HWal
  go_wp2_with fail
  refine HPn.out.mono ?_
  rintro e w4 ⟨rfl, hw4⟩
  have hz2 : w.heap.size ≤ w2.heap.size := HFr2.out.size
  have hz3 : w2.heap.size ≤ w3.heap.size := HFr3.out.size
  have hf3 : Fr Nob w3 w4 := by rw [hw4]; exact ((Fr.refl _ w3).alloc _).alloc _
  have hfile4 : FileAt w4 f d 0 pages 0 := (HFile2.out.fr HFr3.out (fun e => HNf2.out e.1)).fr hf3 (fun h => h)
  have hz4 : w3.heap.size + 2 = w4.heap.size := by rw [hw4]; simp
  have hpb : Blk w4 (w3.heap.size + 1) 115 #[.pointer (some ⟨f, 0, none⟩), .pointer (some ⟨l, 0, none⟩), .int .i64 frames, .map (some w3.heap.size), .slice none 0 0, .int .i64 0] := by
    rw [hw4]
    have := Blk.new (w3.alloc (.map #[] 0)) 115 #[.pointer (some ⟨f, 0, none⟩), .pointer (some ⟨l, 0, none⟩), .int .i64 frames, .map (some w3.heap.size), .slice none 0 0, .int .i64 0]
    simpa using this
  have hmap : FrMap w4 Tryz.prog 3 w3.heap.size 0 (fun _ => none) := by
    rw [hw4]
    exact (FrMap.empty w3 Tryz.prog 3).fr ((Fr.refl Nob _).alloc _) (fun h => h)
  have hRLw : ∀ b, RL b → w2.heap.size ≤ b ∧ b < w3.heap.size := fun b hb => ⟨HRL.out b hb, HWi.out.l.lt hb⟩
  have hRDw : ∀ b, RD b → (R2 b ∨ w2.heap.size ≤ b) ∧ b < w3.heap.size := fun b hb => ⟨HRD.out b hb, HWi.out.d.lt hb⟩
  have hwal4 : WalIn w4 l d (LS.empty (8 * pages + 80) log) (DS.new n) RL RD := ⟨HWi.out.l.new hf3, HWi.out.d.new hf3, HWi.out.apart, HWi.out.fits⟩
  have hok := PoolOk.fresh (pages := pages) (n := n) (logn := log) (frames := frames) hfile4 hwal4 hpb hmap h1 h2 (by omega) (by have := HNd.out; omega) (by omega) h5 h6 ⟨fun e => by have := hRLw f e; omega, fun e => by
    rcases (hRDw f e).1 with e | e
    · exact HNf2.out e
    · omega⟩ ⟨fun e => by have := hRLw _ e; omega, fun e => by have := (hRDw _ e).2; omega⟩ ⟨fun e => by have := hRLw _ e; omega, fun e => by have := (hRDw _ e).2; omega⟩
  have hU : ∀ b, Uni (fun b => b = w3.heap.size + 1 ∨ b = w3.heap.size) (fun _ => False) RL RD f b → (R b ∨ w.heap.size ≤ b) ∧ b < w4.heap.size := fun b hb => by
    rcases hb with (hb | hb) | hb | hb | hb | hb
    · omega
    · omega
    · exact hb.elim
    · have := hRLw b hb; omega
    · have h7 := hRDw b hb
      rcases h7.1 with e | e
      · rcases HSub2.out b e with e | e
        · exact ⟨.inl e, by omega⟩
        · exact ⟨.inr e, by omega⟩
      · omega
    · omega
  obtain ⟨pp, hpp⟩ : ∃ x, w3.heap.size + 1 = x := ⟨_, rfl⟩
  rw [hpp] at hok
  have hfs : Fr Nob w4 (w4.alloc (.cells #[.pointer (some ⟨d, 0, none⟩), .pointer (some ⟨pp, 0, none⟩), .pointer (some ⟨l, 0, none⟩), .int .i64 pages, .bool false, .slice none 0 0, .slice none 0 0, .int .i64 0, .int .i64 0, .int .i64 0] 81)) := (Fr.refl _ w4).alloc _
  have hbs : Blk (w4.alloc (.cells #[.pointer (some ⟨d, 0, none⟩), .pointer (some ⟨pp, 0, none⟩), .pointer (some ⟨l, 0, none⟩), .int .i64 pages, .bool false, .slice none 0 0, .slice none 0 0, .int .i64 0, .int .i64 0, .int .i64 0] 81)) w4.heap.size 81 #[.pointer (some ⟨d, 0, none⟩), .pointer (some ⟨pp, 0, none⟩), .pointer (some ⟨l, 0, none⟩), .int .i64 pages, .bool false, .slice none 0 0, .slice none 0 0, .int .i64 0, .int .i64 0, .int .i64 0] := Blk.new _ _ _
  obtain ⟨w5, hw5⟩ : ∃ W, w4.alloc (.cells #[.pointer (some ⟨d, 0, none⟩), .pointer (some ⟨pp, 0, none⟩), .pointer (some ⟨l, 0, none⟩), .int .i64 pages, .bool false, .slice none 0 0, .slice none 0 0, .int .i64 0, .int .i64 0, .int .i64 0] 81) = W := ⟨_, rfl⟩
  rw [hw5] at hfs hbs
  have htx : TxIn (fun b => b = w4.heap.size) (fun _ => False) (Uni (fun b => b = pp ∨ b = w3.heap.size) (fun _ => False) RL RD f) w5 w4.heap.size pages 0 0 (TS.fresh d pp l f pages log frames) := {
    blk := hbs
    pool := (hok.new hfs).dmono (fun _ _ => trivial)
    chg := World.ownsRow_nil _ _ _ _
    sav := World.ownsRow_nil _ _ _ _
    old := fun x hx => by simp [TS.fresh] at hx
    rs := rfl
    rc := fun g hg => by simp [TS.fresh, Value.ownBlock] at hg
    rv := fun g hg => by simp [TS.fresh, Value.ownBlock] at hg
    ap := fun b hb => ⟨fun h => h, fun e => by rw [← hpp] at e; have := (hU b e).2; omega⟩
    ap2 := fun b hb => hb.elim
    lts := fun b hb => by rw [show b = w4.heap.size from hb]; exact hbs.lt
    lto := fun b hb => hb.elim
    ltu := fun b hb => by rw [← hpp] at hb; have := (hU b hb).2; have := hfs.size; omega
    n1 := Nat.le_refl _
    n2 := Nat.le_refl _
    n3 := Nat.le_refl _
    n4 := Nat.le_refl _
    sum := by show 48 * ((log : Int) - 8) + ((0 : Nat) : Int) = 48 * ((log : Int) - 8); omega
    n16 := h3 }
  have HTx := Lib.hid htx
  have HRc := Lib.hid (Recover_fresh htx rfl rfl)
  have HFs := Lib.hid hfs
  have HF3 := Lib.hid hf3
  have HU := Lib.hid hU
  have HPp := Lib.hid hpp
  have hz45 := hfs.size
  clear htx hfs hbs hok hU hwal4 hmap hpb hfile4 hf3 hw4 hRLw hRDw HPn
  go_wp2_with fail
  refine HRc.out.mono ?_
  rintro e w6 ⟨rfl, hf6⟩
  go_wp2
  go_ret2
  refine ⟨w4.heap.size, rfl, pp, l, f, _, _, HTx.out.new hf6, fun b hb => ?_, fun b hb => ?_, ?_, ?_⟩
  · have hb : b = w4.heap.size := hb
    omega
  · rw [← HPp.out] at hb
    exact (HU.out b hb).1
  · omega
  · refine ((((HFr2.out.fr).step HFr3.out (fun i hi e => ?_)).step HF3.out (fun i hi e => e.elim)).step HFs.out (fun i hi e => e.elim)).step hf6 (fun i hi e => e.elim)
    have e1 : R2 i := e.1
    rcases HSub2.out i e1 with e | e
    · exact e
    · omega
end Go.Proofs.YtfapklpcgcgahaaGreatDoor
