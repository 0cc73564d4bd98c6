/-
  CrUnd, CrWr, in one text.
-/
import Derived.Test.YtccmmnacejdeoaaGreatDoorMg31
import Derived.Test.YtccmmnacejdeoaaGreatDoorMg32
import Derived.Test.YtccmmnacejdeoaaGreatDoorMg24
import Derived.Test.YtccmmnacejdeoaaGreatDoorMg26
import Derived.Deep.DeepCutAuto
/-
  What lies under a pool, on a disk that may die: a file of 8 pages and a log behind it; the calls of the pool on them. Where the disk dies, what it holds is safe: behind any crash no page is in the file whose record is not in the log.
-/
namespace Go.Proofs.YtccmmnacejdeoaaGreatDoor
set_option linter.unusedSimpArgs false
set_option linter.unusedVariables false
open Go.RowKit

/-- Behind any crash the file and the log can be opened, and no page's record is lacking. -/
structure Safe (S : DS) : Prop where
  len : 224 ≤ S.now.length
  waits : S.waits.length < 4000000000
  all : ∀ keep, ∃ K, FileS (S.crash keep).now K ∧ LogS (S.crash keep) K
/-- The disk died; what it holds is safe. -/
def LostE (w w' : World) (d : Nat) (RD U : Nat → Prop) : Prop := ∃ S' RD', DiskOk RD' w' d S' ∧ Safe S' ∧ (∀ b, RD' b → RD b ∨ w.heap.size ≤ b) ∧ Fr U w w'
theorem LostE.mono {w w' : World} {d : Nat} {RD U V : Nat → Prop} (h : LostE w w' d RD U) (hU : ∀ b, U b → V b) : LostE w w' d RD V := by
  obtain ⟨S', RD', h1, h2, h3, h4⟩ := h
  exact ⟨S', RD', h1, h2, h3, h4.mono (fun b _ hb => hU b hb)⟩
/-- .. behind other steps. -/
theorem LostE.after {w0 w w' : World} {d : Nat} {RD0 RD U V : Nat → Prop} (h : LostE w w' d RD U) (hf : Fr V w0 w) (hs : ∀ b, RD b → RD0 b ∨ w0.heap.size ≤ b) (hU : ∀ b, b < w0.heap.size → U b → V b) : LostE w0 w' d RD0 V := by
  obtain ⟨S', RD', h1, h2, h3, h4⟩ := h
  have hz := hf.size
  refine ⟨S', RD', h1, h2, fun b hb => ?_, hf.step h4 hU⟩
  rcases h3 b hb with e | e
  · exact hs b e
  · exact .inr (by omega)
/-- .. ahead of steps that let the disk be. -/
theorem LostE.then {w w' w2 : World} {d : Nat} {RD U V : Nat → Prop} (h : LostE w w' d RD U) (hf : Fr V w' w2) (hV : ∀ b, V b → ¬ RD b ∧ b < w.heap.size) (hU : ∀ b, U b → V b) : LostE w w2 d RD V := by
  obtain ⟨S', RD', h1, h2, h3, h4⟩ := h
  refine ⟨S', RD', h1.fr hf (fun b hb hv => ?_), h2, h3, (h4.mono (fun b _ hb => hU b hb)).trans hf⟩
  rcases h3 b hb with e | e
  · exact (hV b hv).1 e
  · have := (hV b hv).2; omega
theorem LostE.new {w w' w2 : World} {d : Nat} {RD U : Nat → Prop} (h : LostE w w' d RD U) (hf : Fr Nob w' w2) : LostE w w2 d RD U := by
  obtain ⟨S', RD', h1, h2, h3, h4⟩ := h
  exact ⟨S', RD', h1.new hf, h2, h3, h4.trans (hf.mono (fun _ _ h => h.elim))⟩

theorem Plc.agree {a b : List (List UInt8)} {T K : Nat} (h : Plc a T K) (hj : ∀ j, j < 144 → b[j]? = a[j]?) : Plc b T K := fun i hi => by
  obtain ⟨q, h1, h2⟩ := h i hi
  exact ⟨q, by rw [← h1]; exact secN_congr _ 8 (fun k hk => hj _ (by omega)), h2⟩
theorem Plc.mono {a : List (List UInt8)} {T K T' K' : Nat} (h : Plc a T K) (hT : T ≤ T') (hK : K ≤ K') : Plc a T' K' := fun i hi => by
  obtain ⟨q, h1, h2⟩ := h i hi
  exact ⟨q, h1, fun x hx => ⟨(h2 x hx).1, Nat.le_trans (h2 x hx).2.1 hT, Nat.le_trans (h2 x hx).2.2.1 hK, (h2 x hx).2.2.2⟩⟩
theorem LogH.agree {S S' : DS} {L : LS} (h : LogH S L) (hj : ∀ j, 144 ≤ j → S'.now.getD j [] = S.now.getD j []) (hl : S'.now.length = S.now.length) : LogH S' L :=
  { h with
    h0 := fun i hi => by rw [hj _ (by omega)]; exact h.h0 i hi
    sec := fun i hi => by rw [hj _ (by omega)]; exact h.sec i hi
    non := fun i h1 h2 => by rw [hj _ (by omega)]; exact h.non i h1 h2
    len := by rw [hl]; exact h.len }
theorem getD_of {a b : List (List UInt8)} {j : Nat} (h : b[j]? = a[j]?) : b.getD j [] = a.getD j [] := by rw [List.getD_eq_getElem?_getD, List.getD_eq_getElem?_getD, h]
/-- A run that came to its end, whatever it is, if a flush ends it. -/
theorem run_two {S : DS} (W M : List WOp) (hW : noFl W) (hM : noFl M) (hq : Quiet S) (h : (runs S ((W ++ [.fl]) ++ (M ++ [.fl]))).2 = 0) : (runs S ((W ++ [.fl]) ++ (M ++ [.fl]))).1.now = nowOps S.now ((W ++ [.fl]) ++ (M ++ [.fl])) ∧ Quiet (runs S ((W ++ [.fl]) ++ (M ++ [.fl]))).1 := by
  have e := runs_append S (W ++ [.fl]) (M ++ [.fl])
  have hc : (runs S (W ++ [.fl])).2 = 0 := by
    by_cases h0 : (runs S (W ++ [.fl])).2 = 0
    · exact h0
    · rw [if_neg h0] at e
      rw [e] at h
      exact absurd h h0
  rw [if_pos hc] at e
  rw [e] at h ⊢
  obtain ⟨h1, h2⟩ := run_one W hW hq hc
  obtain ⟨h3, h4⟩ := run_one M hM h2 h
  refine ⟨?_, h4⟩
  rw [h3, h1, nowOps_append, nowOps_append, nowOps_append]; rfl

structure UndC (w : World) (f l d pages : Nat) (cur : Nat → Option PgV) (L : LS) (S : DS) (T : Nat) (lot : List PgV) (RL RD : Nat → Prop) (N : Nat) : Prop where
  file : FileAt w f d 0 pages T
  log : LogOk RL w l d L
  disk : DiskOk RD w d S
  q : Quiet S
  ps : PSt S.now 0 pages T lot cur
  good : LogGood L N
  fit1 : 8 * pages + 80 ≤ L.start
  fit2 : L.start + L.n ≤ S.now.length
  n16 : 16 ≤ L.n
  pg1 : 1 ≤ pages
  pg2 : pages ≤ 4096
  ap3 : ∀ b, RL b → ¬ RD b ∧ b ≠ f
  ap4 : ¬ RD f
  p8 : pages = 8
  lh : LogH S L
  plc : Plc S.now T L.flushed
  cl : ∀ no x, no < 8 → cur no = some x → x.lsn ≤ L.flushed
section
variable {w w' : World} {f l d pages : Nat} {cur : Nat → Option PgV} {L : LS} {S : DS} {T : Nat} {lot : List PgV} {RL RD F : Nat → Prop} {N : Nat}
theorem UndC.fr (h : UndC w f l d pages cur L S T lot RL RD N) (hf : Fr F w w') (h1 : ∀ b, RL b → ¬ F b) (h2 : ∀ b, RD b → ¬ F b) (h3 : ¬ F f) : UndC w' f l d pages cur L S T lot RL RD N :=
  { h with
    file := h.file.fr hf h3
    log := h.log.fr hf h1
    disk := h.disk.fr hf h2 }
theorem UndC.new (h : UndC w f l d pages cur L S T lot RL RD N) (hf : Fr Nob w w') : UndC w' f l d pages cur L S T lot RL RD N := h.fr hf (fun _ _ h => h) (fun _ _ h => h) (fun h => h)
theorem UndC.flt (h : UndC w f l d pages cur L S T lot RL RD N) : f < w.heap.size := Blk.lt h.file
theorem UndC.wal (h : UndC w f l d pages cur L S T lot RL RD N) : WalIn w l d L S RL RD := ⟨h.log, h.disk, fun b hb => (h.ap3 b hb).1, h.fit2⟩
theorem UndC.safe (h : UndC w f l d pages cur L S T lot RL RD N) : Safe S := by
  refine ⟨h.lh.len, by rw [h.q.waits]; simp, fun keep => ⟨L.flushed, ?_, ?_⟩⟩
  · have e : (S.crash keep).now = S.now := by
      show setAll S.last (chosen keep S.waits) = _
      rw [h.q.waits, h.q.last]; rfl
    rw [e]
    have hps := h.ps
    rw [h.p8] at hps
    exact FileS.of hps h.cl
  · have e : (S.crash keep).now = S.now := by
      show setAll S.last (chosen keep S.waits) = _
      rw [h.q.waits, h.q.last]; rfl
    exact h.lh.now.agree (fun j _ _ => by rw [e])
/-- The log is flushed. -/
theorem UndC.flush (h : UndC w f l d pages cur L S T lot RL RD N) :
    Calls Tryz.prog 50 #[.pointer (some ⟨l, 0, none⟩)] w fun e w' => (e = .returned (.int .i64 0) ∧ ∃ L' S' RD', UndC w' f l d pages cur L' S' T lot RL RD' N ∧ LSame L L' ∧ L'.flushed = L.next - 1 ∧ (∀ b, RD' b → RD b ∨ w.heap.size ≤ b) ∧ Fr (fun b => RL b ∨ RD b) w w') ∨ (e = .returned (.int .i64 50) ∧ LostE w w' d RD (fun b => RL b ∨ RD b)) := by
  have hfin := h.lh.fin
  have hkl := h.lh.keptLe
  have hft := h.lh.fits
  have hp8 := h.p8
  have hnx := h.lh.nx
  have hcnt := h.lh.cnt
  by_cases hk : L.kept = L.fin
  · refine (Flush_idle h.wal hk).mono ?_
    rintro e w' ⟨rfl, hf⟩
    have hf2 : Fr (fun b => RL b ∨ RD b) w w' := hf.mono (fun _ _ h => h.elim)
    by_cases hd : S.dead = true
    · rw [if_pos hd]
      exact .inr ⟨rfl, S, RD, h.disk.new hf, h.safe, fun b hb => .inl hb, hf2⟩
    · rw [if_neg hd]
      refine .inl ⟨rfl, L, S, RD, h.new hf, LSame.refl L, ?_, fun b hb => .inl hb, hf2⟩
      have e1 := h.lh.kept
      rw [hk, hfin, sizes_one _ h.lh.one, sizes_one _ (fun r hr => h.lh.one r (List.mem_of_mem_take hr)), List.length_take, Nat.min_eq_left h.lh.fl] at e1
      omega
  · have hg := h.good
    have hN := hg.N1
    have hpos := hg.some (by omega)
    have h1 := hg.nx
    have h2 := hg.f1
    have hrl := LS.rs_length L
    refine (Flush_runs h.wal h.lh.laid (by omega) hpos (by omega) hg.sm (by omega) (by rw [h.q.waits]; simp) (by omega) (by omega) (by omega)).mono ?_
    rintro e w' ⟨rfl, hl, ⟨RD', hd', hRD'⟩, hf⟩
    have hcode := runs_code S (L.fOps ++ [.fl])
    rw [show L.wOps (L.from0 0 / 48) (L.wbs 0) (secs (L.wbs 0).length) = L.fOps from rfl] at hl hd' ⊢
    rcases hcode with hc | hc
    · rw [hc]
      obtain ⟨d1, d2, d3, d4⟩ := h.lh.done h.q hc
      have hlog := hl hc
      refine .inl ⟨rfl, L.flushed', (runs S (L.fOps ++ [.fl])).1, RD', ?_, LSame.flushed' L, rfl, hRD', hf⟩
      exact { h with
        file := h.file.fr hf (fun e => by
          rcases e with e | e
          · exact (h.ap3 f e).2 rfl
          · exact h.ap4 e)
        log := hlog
        disk := hd'
        q := d2
        ps := h.ps.agree (fun j s hj => hd'.len64 hj) d3 (fun j _ hj => d4 j (.inl (by omega)))
        good := hg.flushed'
        fit2 := by rw [d3]; exact h.fit2
        ap3 := fun b hb => ⟨fun hd => by
          rcases hRD' b hd with e | e
          · exact (h.ap3 b hb).1 e
          · have := h.log.lt hb; omega, (h.ap3 b hb).2⟩
        ap4 := fun hd => by
          rcases hRD' f hd with e | e
          · exact h.ap4 e
          · have := h.flt; omega
        lh := d1
        plc := (h.plc.agree (fun j hj => d4 j (.inl (by omega)))).mono (Nat.le_refl _) (by show L.flushed ≤ L.next - 1; have := h.lh.fl; omega)
        cl := fun no x hno hx => by
          have := h.cl no x hno hx
          have := h.lh.fl
          show x.lsn ≤ L.next - 1
          omega }
    · rw [hc]
      refine .inr ⟨rfl, _, RD', hd', ⟨by rw [runs_length]; exact h.lh.len, by
        have e := runs_waits S (L.fOps ++ [.fl])
        have e2 : L.fOps.length = secs (L.wbs 0).length := LS.wOps_length _ _ _ _
        have e3 := h.lh.parts.2.2.2
        rw [List.length_append, e2, h.q.waits] at e
        simp only [List.length_cons, List.length_nil] at e
        have : secs (sizes L.rs) ≤ 36 := by unfold secs; omega
        omega, fun keep => ⟨L.flushed, ?_, (h.lh.crash h.q keep).1⟩⟩, hRD', hf⟩
      obtain ⟨_, ha⟩ := h.lh.crash h.q keep
      have hps := h.ps
      rw [hp8] at hps
      obtain ⟨ys, hys, hnow⟩ := crash_one L.fOps (noFl_w _ _ _ _) h.q keep
      refine (FileS.of hps h.cl).agree (fun j s hj => ?_) ?_ (fun j hj => ha j (.inl (by omega)))
      · rw [hnow] at hj
        rcases setAll_at ys S.now j with e | ⟨y, hy, _, e⟩
        · rw [e] at hj; exact h.ps.s64 j s hj
        · rw [e] at hj
          injection hj with hj
          rw [← hj]
          obtain ⟨i, _, _, rfl⟩ := h.lh.wrs (hys y hy)
          exact sectB_length _ _ _ (by rw [List.length_take]; omega)
      · rw [hnow, setAll_length]
/-- Pages are written. -/
theorem UndC.write (h : UndC w f l d pages cur L S T lot RL RD N) (A : Option Addr) (c : Nat) (xs : List (PgV × Value)) (hl : PgsIn (fun b => RD b ∨ b = f) w A xs) (hok : ∀ x ∈ xs, PgK x.1 L.flushed) (hn0 : 0 < xs.length) (hn : xs.length ≤ 8)
    (hdis : ∀ (i j : Nat) x y, xs[i]? = some x → xs[j]? = some y → x.1.no = y.1.no → i = j) (hT : T + 1 < 4611686018427387904) :
    Calls Tryz.prog 51 #[.pointer (some ⟨f, 0, none⟩), .slice A xs.length c] w fun e w' => (e = .returned (.int .i64 0) ∧ ∃ S' RD', UndC w' f l d pages (curW cur (xs.map (·.1)) xs.length) L S' (T + 1) (xs.map (·.1)) RL RD' N ∧ (∀ b, RD' b → RD b ∨ w.heap.size ≤ b) ∧ Fr (fun b => RD b ∨ b = f) w w') ∨ (e = .returned (.int .i64 50) ∧ LostE w w' d RD (fun b => RD b ∨ b = f)) := by
  have hpg := h.pg2
  have hp8 := h.p8
  have hlen := h.lh.len
  subst hp8
  have hps := h.ps
  obtain ⟨ls, hls⟩ : ∃ ls, xs.map (·.1) = ls := ⟨_, rfl⟩
  have hll : ls.length = xs.length := by rw [← hls, List.length_map]
  have hlK : ∀ x ∈ ls, PgK x L.flushed := fun x hx => by
    rw [← hls] at hx
    obtain ⟨y, hy, rfl⟩ := List.mem_map.1 hx
    exact hok y hy
  have hlne : ls ≠ [] := fun e => by rw [e] at hll; simp at hll; omega
  refine (pgWriteAll_run A c xs h.file h.ap4 h.disk hl (fun x hx => ⟨(hok x hx).ok, (hok x hx).no⟩) hn0 hn hdis (by omega) (by omega) (by omega) (by rw [h.q.waits]; simp) (by omega)).mono ?_
  rintro e w' ⟨he, hd', ⟨t', hfa', ht'⟩, hfr⟩
  rw [hls] at he hd' ht' ⊢
  have hfr2 : Fr (fun b => RD b ∨ b = f) w w' := hfr.mono (fun b _ hb => hb.elim (fun h => .inl h.1) .inr)
  have hsub : ∀ b, Ext RD w w' b → RD b ∨ w.heap.size ≤ b := fun b hb => hb.elim .inl (fun h => .inr h.1)
  have hW : noFl (plcOps (0 + 8 * 8) (T + 1) ls ls.length ++ secOps (0 + 8 * 8) (lotB (T + 1) ls.length) 1) := noFl_append _ _ (noFl_plc _ _ _ _) (noFl_sec _ _ _)
  have hM : noFl (layOps 0 ls ls.length) := noFl_lay _ _ _
  rcases runs_code S (writeOps 0 8 (T + 1) ls) with hc | hc
  · rw [hc] at he
    obtain ⟨r1, r2⟩ := run_two _ _ hW hM h.q hc
    have r1 : (runs S (writeOps 0 8 (T + 1) ls)).1.now = nowOps S.now (writeOps 0 8 (T + 1) ls) := r1
    have r2 : Quiet (runs S (writeOps 0 8 (T + 1) ls)).1 := r2
    obtain ⟨S', hS'⟩ : ∃ S', (runs S (writeOps 0 8 (T + 1) ls)).1 = S' := ⟨_, rfl⟩
    rw [hS'] at hd' r1 r2
    rw [nowOps_write] at r1
    have hlen' : S'.now.length = S.now.length := by rw [r1, wrote_length]
    have hlok : ∀ x ∈ ls, x.no < 8 := fun x hx => (hlK x hx).no
    have hoth : ∀ j, 144 ≤ j → S'.now[j]? = S.now[j]? := fun j hj => by
      rw [r1]
      unfold Proofs.YtccmmnacejdeoaaGreatDoor.wrote
      rw [layNow_other (pages := 8) hlok j (by omega), wrNow_other _ _ _ _ _ (.inr (by omega))]
      have key : ∀ k, k ≤ ls.length → (plcNow S.now (0 + 8 * 8) (T + 1) ls k)[j]? = S.now[j]? := by
        intro k
        induction k with
        | zero => intro _; rfl
        | succ k ih =>
          intro hk
          unfold plcNow
          rw [List.getElem?_eq_getElem (show k < ls.length by omega)]
          dsimp only
          rw [wrNow_other _ _ _ _ _ (.inr (by omega)), ih (by omega)]
      exact key _ (Nat.le_refl _)
    have hps' := hps.wrote (l := ls) hlne (by omega) (fun x hx => ⟨(hlK x hx).ok, (hlK x hx).no⟩) (fun i j x y hx hy e => by
      rw [← hls, List.getElem?_map] at hx hy
      obtain ⟨x', hx', rfl⟩ := Option.map_eq_some_iff.1 hx
      obtain ⟨y', hy', rfl⟩ := Option.map_eq_some_iff.1 hy
      exact hdis i j x' y' hx' hy' e) hT
    rw [← r1] at hps'
    refine .inl ⟨he, S', Ext RD w w', ?_, hsub, hfr2⟩
    rw [← hll]
    exact { h with
      file := by rw [← ht' hc]; exact hfa'
      log := h.log.fr hfr2 (fun b hb e => by
        rcases e with e | e
        · exact (h.ap3 b hb).1 e
        · exact (h.ap3 b hb).2 e)
      disk := hd'
      q := r2
      ps := hps'
      fit2 := by rw [hlen']; exact h.fit2
      ap3 := fun b hb => ⟨fun hd => by
        rcases hd with hd | hd
        · exact (h.ap3 b hb).1 hd
        · have := h.log.lt hb; omega, (h.ap3 b hb).2⟩
      ap4 := fun hd => by
        rcases hd with hd | hd
        · exact h.ap4 hd
        · have := h.flt; omega
      lh := h.lh.agree (fun j hj => getD_of (hoth j hj)) hlen'
      plc := fun j hj => by
        have e1 : secN S'.now (65 + 8 * j) 8 = secN (plcNow S.now 64 (T + 1) ls ls.length) (65 + 8 * j) 8 := by
          rw [r1]
          unfold Proofs.YtccmmnacejdeoaaGreatDoor.wrote
          rw [secN_congr _ _ (fun k hk => layNow_other (pages := 8) hlok _ (by omega) _), secN_wr_other _ _ _ _ _ _ (by omega)]
        rw [e1]
        have e2 := plcNow_place (now := S.now) (sp := 64) (t := T + 1) (l := ls) (fun x hx => (hlK x hx).ok) (by omega) (by omega) j hj ls.length (Nat.le_refl _)
        rw [show 65 + 8 * j = 64 + 1 + 8 * j from rfl, e2]
        by_cases hjl : j < ls.length
        · rw [if_pos hjl, List.getElem?_eq_getElem hjl]
          have hk := hlK _ (List.getElem_mem hjl)
          refine ⟨some (ls[j], T + 1), rfl, fun x hx => ?_⟩
          injection hx with hx; subst hx
          exact ⟨hk.ok, Nat.le_refl _, hk.lsn, hk.kind⟩
        · rw [if_neg hjl]
          obtain ⟨q, q1, q2⟩ := h.plc j hj
          exact ⟨q, q1, fun x hx => ⟨(q2 x hx).1, by have := (q2 x hx).2.1; omega, (q2 x hx).2.2⟩⟩
      cl := fun no x hno hx => by
        rcases curW_cases _ _ _ _ _ hx with e | e
        · exact h.cl no x hno e
        · exact (hlK x e.1).lsn }
  · rw [hc] at he
    refine .inr ⟨he, _, Ext RD w w', hd', ⟨by rw [runs_length]; exact hlen, by
      have e := runs_waits S (writeOps 0 8 (T + 1) ls)
      have e2 : (writeOps 0 8 (T + 1) ls).length ≤ 200 := by
        unfold writeOps
        have := plcOps_length (0 + 8 * 8) (T + 1) ls ls.length
        have := layOps_length 0 ls ls.length
        simp only [List.length_append, secOps_length, List.length_cons, List.length_nil]
        omega
      rw [h.q.waits] at e
      simp only [List.length_nil] at e
      omega, fun keep => ⟨L.flushed, ?_⟩⟩, hsub, hfr2⟩
    have hcw := crash_cases (S := S) _ _ hW hM h.q.last h.q.waits keep
    have hboth : ∀ (base : List (List UInt8)) ys, base.length = S.now.length → (∀ j, 144 ≤ j → base[j]? = S.now[j]?) → (∀ y ∈ ys, y.1 < 144) → ((runs S (writeOps 0 8 (T + 1) ls)).1.crash keep).now = setAll base ys → LogS ((runs S (writeOps 0 8 (T + 1) ls)).1.crash keep) L.flushed := by
      intro base ys hb1 hb2 hys hnow
      refine h.lh.now.agree (fun j hj _ => getD_of ?_)
      rw [hnow]
      rcases setAll_at ys base j with e | ⟨y, hy, e, _⟩
      · rw [e]; exact hb2 j hj
      · have := hys y hy; omega
    rcases hcw with ⟨_, ys, hys, hnow⟩ | ⟨_, ys, hys, hnow⟩
    · have hnow : ((runs S (writeOps 0 8 (T + 1) ls)).1.crash keep).now = setAll S.now ys := hnow
      refine ⟨?_, hboth S.now ys rfl (fun _ _ => rfl) (fun y hy => ?_) hnow⟩
      · rw [hnow]
        exact file_before hps h.plc h.cl hlK (by omega) hys
      · have := hys y hy
        rw [wrs_append, List.mem_append] at this
        rcases this with e | e
        · obtain ⟨i, x, s, h1, h2, h3, rfl⟩ := wrs_plc _ _ _ _ _ e
          dsimp only; omega
        · obtain ⟨t, ht, rfl⟩ := wrs_sec _ _ _ _ e
          dsimp only; omega
    · have hnow : ((runs S (writeOps 0 8 (T + 1) ls)).1.crash keep).now = setAll (nowOps S.now (plcOps (0 + 8 * 8) (T + 1) ls ls.length ++ secOps (0 + 8 * 8) (lotB (T + 1) ls.length) 1)) ys := hnow
      have hn2 : nowOps S.now (plcOps (0 + 8 * 8) (T + 1) ls ls.length ++ secOps (0 + 8 * 8) (lotB (T + 1) ls.length) 1) = wrNow (plcNow S.now 64 (T + 1) ls ls.length) 64 (lotB (T + 1) ls.length) 1 := by
        rw [nowOps_append, nowOps_plc, nowOps_sec]
      rw [hn2] at hnow
      have key : ∀ k j, k ≤ ls.length → 144 ≤ j → (plcNow S.now 64 (T + 1) ls k)[j]? = S.now[j]? := by
        intro k j
        induction k with
        | zero => intro _ _; rfl
        | succ k ih =>
          intro hk hj
          unfold plcNow
          rw [List.getElem?_eq_getElem (show k < ls.length by omega)]
          dsimp only
          rw [wrNow_other _ _ _ _ _ (.inr (by omega)), ih (by omega) hj]
      refine ⟨?_, hboth _ ys (by rw [wrNow_length, plcNow_length]) (fun j hj => ?_) (fun y hy => ?_) hnow⟩
      · rw [hnow]
        exact file_behind hps h.cl hlK hlne (by omega) hT hys
      · rw [wrNow_other _ _ _ _ _ (.inr (by omega)), key _ j (Nat.le_refl _) hj]
      · obtain ⟨x, s, h1, h2, rfl⟩ := wrs_lay _ _ _ _ (hys y hy)
        have := (hlK x h1).no
        dsimp only; omega
/-- A record is put behind the others. -/
theorem UndC.append (h : UndC w f l d pages cur L S T lot RL RD N) (a : Addr) (c : Nat) (b : List UInt8) (hb : BytesIn w (some a) b) (ha : a.block < w.heap.size) (hlen : b.length = 1) (hcn : L.rs.length < 100) (hN : N + 1 ≤ 400000) :
    Calls Tryz.prog 12 #[.pointer (some ⟨l, 0, none⟩), .slice (some a) b.length c] w fun e w' => e = .returned (.tuple #[.int .u64 L.next, .int .i64 0]) ∧ ∃ RL', UndC w' f l d pages cur (L.add b) S T lot RL' RD (N + 1) ∧ (∀ x, RL' x → RL x ∨ w.heap.size ≤ x) ∧ Fr RL w w' := by
  have h1 := h.good.fin
  have h2 := h.good.next
  have h3 := h.good.nx
  have h4 := h.good.room
  have h5 := h.lh.room
  have h6 := h.lh.fits
  refine (Append_good a c b h.log hb ha (by omega) (by omega) (by omega) (by omega) (by omega) (by omega)).mono ?_
  rintro e w' ⟨rfl, hl, hf⟩
  refine ⟨rfl, Ext RL w w', ?_, fun x hx => hx.elim .inl (fun h => .inr h.1), hf⟩
  exact { h with
    file := h.file.fr hf (fun e => (h.ap3 f e).2 rfl)
    log := hl
    disk := h.disk.fr hf (fun x hx e => (h.ap3 x e).1 hx)
    good := h.good.add b (by omega) hN
    ap3 := fun x hx => by
      rcases hx with hx | hx
      · exact h.ap3 x hx
      · exact ⟨fun hd => by have := h.disk.lt hd; omega, fun e => by have := h.flt; omega⟩
    lh := h.lh.add b hlen hcn }
end
end Go.Proofs.YtccmmnacejdeoaaGreatDoor

/-
  write: dirty pages are written behind their records, on a disk that may die.
-/
namespace Go.Proofs.YtccmmnacejdeoaaGreatDoor
set_option linter.unusedSimpArgs false
set_option linter.unusedVariables false
open Go.RowKit Go.Maps

/-- What holds while pages are gathered. -/
structure WStC (RP RQ : Nat → Prop) (w0 wr : World) (p f l d pages : Nat) (frames hand : Int) (B : Nat) (rv : Value) (fs : List (Nat × Frm)) (cur : Nat → Option PgV) (L0 L : LS) (S : DS) (T : Nat) (lot : List PgV) (RL RD0 RD : Nat → Prop) (N : Nat) (A : Option Addr) (ys : List (Nat × Frm)) (v : Value) (xs : List (PgV × Value)) : Prop where
  pool : PoolAt RP RQ wr p f l frames hand B rv fs
  und : UndC wr f l d pages cur L S T lot RL RD N
  same : LSame L0 L
  sub : ∀ b, RD b → RD0 b ∨ w0.heap.size ≤ b
  ap : ∀ b, RP b ∨ RQ b → ¬ RL b ∧ ¬ RD b ∧ b ≠ f
  ptr : PtrsIn (fun b => RP b ∨ RL b ∨ RD0 b ∨ b = f ∨ w0.heap.size ≤ b) wr A ys
  row : wr.ownsRow w0.heap.size 40 3 v xs.length (pgCells xs)
  rap : ∀ g, v.ownBlock = some g → ¬ RD g
  cells : ∀ x ∈ xs, ∃ kb ko c, RQ kb ∧ x.2 = .slice (some ⟨kb, ko, none⟩) 480 c ∧ Bsl wr (some ⟨kb, ko, none⟩) c x.1.d
  fr : Fr (fun b => RL b ∨ RD0 b) w0 wr
  lt0 : ∀ b, (RP b ∨ RQ b ∨ RL b ∨ b = f) → b < w0.heap.size
section
variable {RP RQ : Nat → Prop} {w0 wr w' : World} {p f l d pages : Nat} {frames hand : Int} {B : Nat} {rv : Value} {fs : List (Nat × Frm)} {cur : Nat → Option PgV} {L0 L : LS} {S : DS} {T : Nat} {lot : List PgV} {RL RD0 RD : Nat → Prop} {N : Nat} {A : Option Addr} {ys : List (Nat × Frm)} {v : Value} {xs : List (PgV × Value)}
theorem WStC.new (h : WStC RP RQ w0 wr p f l d pages frames hand B rv fs cur L0 L S T lot RL RD0 RD N A ys v xs) (hf : Fr Nob wr w') : WStC RP RQ w0 w' p f l d pages frames hand B rv fs cur L0 L S T lot RL RD0 RD N A ys v xs :=
  { h with
    pool := h.pool.new hf
    und := h.und.new hf
    ptr := h.ptr.fr hf (fun _ _ h => h.elim)
    row := own_fr h.row hf (fun _ _ h => h)
    cells := fun x hx => by
      obtain ⟨kb, ko, c, h1, h2, h3⟩ := h.cells x hx
      exact ⟨kb, ko, c, h1, h2, h3.new hf⟩
    fr := h.fr.trans (hf.mono (fun _ _ h => h.elim)) }
/-- A page more. -/
theorem WStC.push (h : WStC RP RQ w0 wr p f l d pages frames hand B rv fs cur L0 L S T lot RL RD0 RD N A ys v xs) {v7 : Value} {y : Nat × Frm} {kb ko c : Nat} (hq : RQ kb) (hb : Bsl wr (some ⟨kb, ko, none⟩) c y.2.x.d)
    (hown : w'.ownsRow w0.heap.size 40 3 v7 (xs.length + 1) (pgCells xs ++ [.int .i64 y.2.x.no, .int .u64 y.2.x.lsn, .slice (some ⟨kb, ko, none⟩) 480 c])) (hg : wr.grownBy w' v.ownBlock) (hat : v7.ownBlock = v.ownBlock ∨ v7.ownBlock = some wr.heap.size) :
    WStC RP RQ w0 w' p f l d pages frames hand B rv fs cur L0 L S T lot RL RD0 RD N A ys v7 (xs ++ [(y.2.x, .slice (some ⟨kb, ko, none⟩) 480 c)]) := by
  have f7 : Fr (fun b => some b = v.ownBlock) wr w' := Fr.grown (Fr.refl _ _) hg (fun r hr => .inr hr.symm)
  have hlt := fun g hg => h.row.lt g hg
  have hz := h.fr.size
  have hn : ∀ b, b < w0.heap.size → ¬ some b = v.ownBlock := fun b hb e => by have := hlt b e.symm; omega
  exact { h with
    pool := h.pool.fr f7 (fun b hb => hn b (h.lt0 b (.inl hb))) (fun b hb => hn b (h.lt0 b (.inr (.inl hb))))
    und := h.und.fr f7 (fun b hb => hn b (h.lt0 b (.inr (.inr (.inl hb))))) (fun b hb e => h.rap b e.symm hb) (hn f (h.lt0 f (.inr (.inr (.inr rfl)))))
    ptr := h.ptr.fr f7 (fun b _ e => .inr (.inr (.inr (.inr (hlt b e.symm).1))))
    row := by rw [List.length_append, List.length_singleton, pgCells_snoc]; exact hown
    rap := fun g hg hd => by
      rcases hat with e | e
      · exact h.rap g (by rw [← e]; exact hg) hd
      · rw [e] at hg
        injection hg with hg
        have := h.und.disk.lt hd
        omega
    cells := fun x hx => by
      have hkeep : ∀ kb ko c (dd : List UInt8), RQ kb → Bsl wr (some ⟨kb, ko, none⟩) c dd → Bsl w' (some ⟨kb, ko, none⟩) c dd := fun kb ko c dd hq hb => hb.fr f7 (fun a ha => by injection ha with ha; subst ha; exact hn kb (h.lt0 kb (.inr (.inl hq))))
      rcases List.mem_append.1 hx with hx | hx
      · obtain ⟨kb, ko, c, h1, h2, h3⟩ := h.cells x hx
        exact ⟨kb, ko, c, h1, h2, hkeep _ _ _ _ h1 h3⟩
      · rw [List.mem_singleton] at hx
        subst hx
        exact ⟨kb, ko, c, hq, rfl, hkeep _ _ _ _ hq hb⟩
    fr := h.fr.step f7 (fun i hi e => absurd e (hn i hi)) }
/-- The log is flushed in between. -/
theorem WStC.flushed (h : WStC RP RQ w0 wr p f l d pages frames hand B rv fs cur L0 L S T lot RL RD0 RD N A ys v xs) :
    Calls Tryz.prog 50 #[.pointer (some ⟨l, 0, none⟩)] wr fun e w' => (e = .returned (.int .i64 0) ∧ ∃ L' S' RD', WStC RP RQ w0 w' p f l d pages frames hand B rv fs cur L0 L' S' T lot RL RD0 RD' N A ys v xs ∧ L'.flushed = L.next - 1) ∨ (e = .returned (.int .i64 50) ∧ LostE w0 w' d RD0 (fun b => RL b ∨ RD0 b)) := by
  refine h.und.flush.mono ?_
  rintro e w' (⟨rfl, L', S', RD', hu, hs, hfl, hsub, hf⟩ | ⟨rfl, hlost⟩)
  rotate_left
  · exact .inr ⟨rfl, hlost.after h.fr h.sub (fun b hb e => by
      rcases e with e | e
      · exact .inl e
      · rcases h.sub b e with e | e
        · exact .inr e
        · omega)⟩
  have hz := h.fr.size
  have hrow : ∀ g, v.ownBlock = some g → ¬ (RL g ∨ RD g) := fun g hg e => by
    rcases e with e | e
    · have := h.lt0 g (.inr (.inr (.inl e))); have := (h.row.lt g hg).1; omega
    · exact h.rap g hg e
  refine .inl ⟨rfl, L', S', RD', ?_, hfl⟩
  exact {
    pool := h.pool.fr hf (fun b hb e => by
      rcases e with e | e
      · exact (h.ap b (.inl hb)).1 e
      · exact (h.ap b (.inl hb)).2.1 e) (fun b hb e => by
      rcases e with e | e
      · exact (h.ap b (.inr hb)).1 e
      · exact (h.ap b (.inr hb)).2.1 e)
    und := hu
    same := h.same.trans hs
    sub := fun b hb => by
      rcases hsub b hb with e | e
      · exact h.sub b e
      · exact .inr (by omega)
    ap := fun b hb => ⟨(h.ap b hb).1, fun e => by
      rcases hsub b e with e | e
      · exact (h.ap b hb).2.1 e
      · have := h.lt0 b (hb.elim .inl (fun h => .inr (.inl h))); omega, (h.ap b hb).2.2⟩
    ptr := h.ptr.fr hf (fun b _ e => by
      rcases e with e | e
      · exact .inr (.inl e)
      · rcases h.sub b e with e | e
        · exact .inr (.inr (.inl e))
        · exact .inr (.inr (.inr (.inr e))))
    row := own_fr h.row hf hrow
    rap := fun g hg e => by
      rcases hsub g e with e | e
      · exact h.rap g hg e
      · have := own_lt h.row hg; omega
    cells := fun x hx => by
      obtain ⟨kb, ko, c, h1, h2, h3⟩ := h.cells x hx
      exact ⟨kb, ko, c, h1, h2, h3.fr hf (fun a ha e => by
        injection ha with ha; subst ha
        rcases e with e | e
        · exact (h.ap kb (.inr h1)).1 e
        · exact (h.ap kb (.inr h1)).2.1 e)⟩
    fr := h.fr.step hf (fun i hi e => by
      rcases e with e | e
      · exact .inl e
      · rcases h.sub i e with e | e
        · exact .inr e
        · omega)
    lt0 := h.lt0 }
/-- The row, as the file takes it. -/
theorem WStC.pgs (h : WStC RP RQ w0 wr p f l d pages frames hand B rv fs cur L0 L S T lot RL RD0 RD N A ys v xs) : ∃ A' c, v = .slice A' xs.length c ∧ PgsIn (fun b => RD b ∨ b = f) wr A' xs := by
  by_cases h0 : 0 < xs.length
  · obtain ⟨g, cap, rfl, hgb, hgl⟩ := h.row.form h0
    have hgb : w0.heap.size ≤ g := hgb
    refine ⟨some ⟨g, 0, none⟩, cap, rfl, fun _ => ⟨g, rfl, fun e => ?_, fun j x hx => ?_⟩⟩
    · rcases e with e | e
      · exact h.rap g rfl e
      · have := h.lt0 g (.inr (.inr (.inr e))); omega
    · obtain ⟨a1, a2, a3⟩ := pgCells_at xs j x hx
      have hc := h.row.cells (g := g) rfl
      have k1 := hc _ _ a1
      have k2 := hc _ _ a2
      have k3 := hc _ _ a3
      rw [addr_add0] at k1 k2 k3
      obtain ⟨kb, ko, c, h1, h2, h3⟩ := h.cells x (List.mem_of_getElem? hx)
      exact ⟨k1, k2, k3, kb, ko, c, h2, h3, fun e => by
        rcases e with e | e
        · exact (h.ap kb (.inr h1)).2.1 e
        · exact (h.ap kb (.inr h1)).2.2 e⟩
  · obtain rfl : xs = [] := List.eq_nil_of_length_eq_zero (by omega)
    rcases h.row.2 with ⟨rfl, _⟩ | ⟨g, cap, _, rfl, _⟩
    · exact ⟨none, 0, rfl, fun h => absurd h (by simp)⟩
    · exact ⟨some ⟨g, 0, none⟩, cap, rfl, fun h => absurd h (by simp)⟩
end

section
variable {RP RQ : Nat → Prop} {w : World} {p f l d pages : Nat} {frames hand : Int} {B : Nat} {rv : Value} {fs : List (Nat × Frm)} {cur : Nat → Option PgV} {L : LS} {S : DS} {T : Nat} {lot : List PgV} {RL RD : Nat → Prop} {N : Nat}
set_option maxHeartbeats 6400000 in
set_option maxRecDepth 100000 in
theorem write_anyC (hp : PoolAt RP RQ w p f l frames hand B rv fs) (hu : UndC w f l d pages cur L S T lot RL RD N) (hap : ∀ b, RP b ∨ RQ b → ¬ RL b ∧ ¬ RD b ∧ b ≠ f) (ys : List (Nat × Frm)) (A : Option Addr) (c : Nat)
    (hys : ∀ y ∈ ys, y ∈ fs) (hin : PtrsIn (fun b => RP b ∨ RL b ∨ RD b ∨ b = f ∨ w.heap.size ≤ b) w A ys) (h0 : 0 < ys.length) (h8 : ys.length ≤ 8) (hdis : ∀ (i j : Nat) x y, ys[i]? = some x → ys[j]? = some y → x.2.x.no = y.2.x.no → i = j) (hok : ∀ y ∈ fs, y.2.x.Ok ∧ y.2.x.no < pages) (hkk : ∀ y ∈ ys, y.2.x.lsn < L.next ∧ ∃ n, y.2.x.d = dataB n) (hT : T + 1 < 4611686018427387904) :
    Calls Tryz.prog 27 #[.pointer (some ⟨p, 0, none⟩), .slice A ys.length c] w fun e w' => (e = .returned (.int .i64 0) ∧ ∃ L' S' RD', PoolAt RP RQ w' p f l frames hand B rv (cleanF (ys.map (·.2.x.no)) fs) ∧ UndC w' f l d pages (curW cur (ys.map (·.2.x)) ys.length) L' S' (T + 1) (ys.map (·.2.x)) RL RD' N ∧ LSame L L' ∧ (∀ b, RD' b → RD b ∨ w.heap.size ≤ b) ∧ Fr (fun b => RP b ∨ RL b ∨ RD b ∨ b = f) w w') ∨ (e = .returned (.int .i64 50) ∧ LostE w w' d RD (fun b => RP b ∨ RL b ∨ RD b ∨ b = f)) := by
  obtain ⟨i0, hi0, hz0, hz1, hz2⟩ := info_parts info_Page
  have qP := len_ptrs
  obtain ⟨n, hn⟩ : ∃ n, ys.length = n := ⟨_, rfl⟩
  have HN := Lib.hid hn
  obtain ⟨ga, rfl, hgab, hgac⟩ := hin h0
  have HYs := Lib.hid hys
  have HDis := Lib.hid hdis
  have HOk := Lib.hid hok
  have HKk := Lib.hid hkk
  have HLost : Hid (∀ W, LostE w W d RD (fun b => RL b ∨ RD b) → LostE w W d RD (fun b => RP b ∨ RL b ∨ RD b ∨ b = f)) := fun W h => h.mono (fun b hb => by
    rcases hb with hb | hb
    · exact .inr (.inl hb)
    · exact .inr (.inr (.inl hb)))
  have hlt0 : ∀ b, (RP b ∨ RQ b ∨ RL b ∨ b = f) → b < w.heap.size := fun b hb => by
    rcases hb with hb | hb | hb | hb
    · exact hp.lt b hb
    · exact hp.ltq b hb
    · exact hu.log.lt hb
    · rw [hb]; exact hu.flt
  have HSt : Hid (WStC RP RQ w w p f l d pages frames hand B rv fs cur L L S T lot RL RD RD N (some ⟨ga, 0, none⟩) ys (.slice none 0 0) []) := {
    pool := hp
    und := hu
    same := LSame.refl L
    sub := fun b hb => .inl hb
    ap := hap
    ptr := hin
    row := World.ownsRow_nil _ _ _ _
    rap := fun g hg => by simp [Value.ownBlock] at hg
    cells := fun x hx => by simp at hx
    fr := Fr.refl _ _
    lt0 := hlt0 }
  have HPdis := Lib.hid (fun (i j : Nat) (y z : Nat × Frm) (hi : fs[i]? = some y) (hj : fs[j]? = some z) (e : y.2.x.no = z.2.x.no) => hp.apart hi hj e)
  rw [hn] at h0 h8 ⊢
  have hp8 := hu.p8
  clear hp hu hys hin hdis hok hkk hn hgac
  go_enter Tryz.func27, Tryz.ntmps27
  go_wp2
  try (rw [qP]; go_wp2)
  go_loopw [5, 7, 8, 14] (fun pv _ _ iv wr => ∃ (k : Nat) (xs : List (PgV × Value)), k ≤ n ∧ iv = .int .i64 k ∧ Hid (xs.length = k ∧ xs.map (·.1) = (ys.take k).map (·.2.x)) ∧ Hid (∃ (L' : LS) (S' : DS) (RD' : Nat → Prop), WStC RP RQ w wr p f l d pages frames hand B rv fs cur L L' S' T lot RL RD RD' N (some ⟨ga, 0, none⟩) ys pv xs ∧ ∀ x ∈ xs, x.1.lsn ≤ L'.flushed)) (fun _ _ _ iv _ => n - (intOf iv).toNat)
  case atStart => exact ⟨0, [], by omega, rfl, ⟨rfl, rfl⟩, L, S, RD, HSt.out, fun x hx => by simp at hx⟩
  case round =>
    clear HSt
    obtain ⟨k, xs, hk, rfl, hxs, hst⟩ := hrel
    obtain ⟨L', S', RD', hst, hls⟩ := hst.out
    have HLs := Lib.hid hls
    clear hls
    by_cases hlt : k < n
    · obtain ⟨y, hy⟩ : ∃ y, ys[k]? = some y := ⟨_, List.getElem?_eq_getElem (by rw [HN.out]; exact hlt)⟩
      have HY := Lib.hid hy
      obtain ⟨b, m⟩ := y
      have hyf : (b, m) ∈ fs := HYs.out _ (List.mem_of_getElem? hy)
      obtain ⟨g', eg, _, hgc⟩ := hst.ptr (by rw [HN.out]; omega)
      injection eg with eg
      injection eg with eg
      subst eg
      have cg := hgc k _ hy
      have zg := cell_lt cg
      dsimp only at cg zg
      obtain ⟨rb, kb, ko, cc, rq, hfb, hbs⟩ := hst.pool.frm _ hyf
      dsimp only at rb hfb hbs
      have HFb := Lib.hid hfb
      have HRq := Lib.hid rq
      have HBs := Lib.hid hbs
      have b0 := hfb.cell 0
      have b1 := hfb.cell 1
      have b2 := hfb.cell 2
      have zb := hfb.lt
      simp only [List.getElem?_toArray, List.getElem?_cons_zero, List.getElem?_cons_succ] at b0 b1 b2
      have kk0 : (k : Int) < (n : Int) := by omega
      have kk1 : (0 : Int) ≤ (k : Int) := by omega
      have e8 : IntKind.i64.wrap ((k : Int) + 1) = (k : Int) + 1 := by rw [IntKind.wrap_i64]; omega
      have HSt := Lib.hid hst
      have HXs := Lib.hid hxs.out
      have hxl : xs.length ≤ 8 := by rw [hxs.out.1]; omega
      have hzw := hst.fr.size
      have HRa : Hid ((wr.alloc (.cells #[.int .i64 m.x.no, .int .u64 m.x.lsn, .slice (some ⟨kb, ko, none⟩) 480 cc] 40)).ownsRow w.heap.size 40 3 u5 xs.length (pgCells xs)) := hst.row.alloc _
      have HNw : Hid (∀ (j : Nat) u, ([.int .i64 m.x.no, .int .u64 m.x.lsn, .slice (some ⟨kb, ko, none⟩) 480 cc] : List Value)[j]? = some u → (wr.alloc (.cells #[.int .i64 m.x.no, .int .u64 m.x.lsn, .slice (some ⟨kb, ko, none⟩) 480 cc] 40)).cell? ((⟨wr.heap.size, 0, none⟩ : Addr).add j) = some u) := fun j u hu => by
        have hb := Blk.new wr 40 #[.int .i64 m.x.no, .int .u64 m.x.lsn, .slice (some ⟨kb, ko, none⟩) 480 cc]
        rw [Addr.add_mid, Nat.zero_add]; exact (hb.cell j).trans (by simpa using hu)
      clear hst hxs hy hfb hbs rq hgc
      go_wp2_with (at_builtin; go_must (refine wpList_append_own_at _ rfl (.tmp 18) (.tmp 23) 104 rfl w.heap.size 40 i0 (.agg #[.int .i64 0, .int .u64 0, .slice none 0 0]) 3 40 Tryz.underlying104 hi0 hz0 hz1 hz2 rfl (by decide) u5 xs.length (pgCells xs) rfl HRa.out ⟨wr.heap.size, 0, none⟩ 1 1 [.int .i64 m.x.no, .int .u64 m.x.lsn, .slice (some ⟨kb, ko, none⟩) 480 cc] rfl rfl HNw.out (by simp [Value.oneCell']) (by unfold maxLen; omega) (by omega) (by simp; omega) ?_); intro v7 w7 hown7 hg7 hn7 hat7; have HO7 := Lib.hid hown7; have HG7 := Lib.hid hg7; have HA7 := Lib.hid hat7; clear hown7 hg7 hn7 hat7)
      have hpush : WStC RP RQ w w7 p f l d pages frames hand B rv fs cur L L' S' T lot RL RD RD' N (some ⟨ga, 0, none⟩) ys v7 (xs ++ [(m.x, .slice (some ⟨kb, ko, none⟩) 480 cc)]) :=
        (HSt.out.new ((Fr.refl Nob wr).alloc (.cells #[.int .i64 m.x.no, .int .u64 m.x.lsn, .slice (some ⟨kb, ko, none⟩) 480 cc] 40))).push (y := (b, m)) HRq.out (HBs.out.new ((Fr.refl Nob wr).alloc _)) HO7.out HG7.out HA7.out
      have HSt7 := Lib.hid hpush
      have HXs7 : Hid ((xs ++ [(m.x, Value.slice (some ⟨kb, ko, none⟩) 480 cc)]).length = k + 1 ∧ (xs ++ [(m.x, Value.slice (some ⟨kb, ko, none⟩) 480 cc)]).map (·.1) = (ys.take (k + 1)).map (·.2.x)) := by
        refine ⟨by rw [List.length_append, HXs.out.1]; rfl, ?_⟩
        rw [List.take_add_one, HY.out, List.map_append, List.map_append, HXs.out.2]; rfl
      obtain ⟨rb', kb', ko', cc', rq', hfb', _⟩ := hpush.pool.frm _ hyf
      dsimp only at hfb'
      have fb1 := hfb'.cell 1
      have zb2 := hfb'.lt
      have p1 := hpush.pool.blk.cell 1
      have zp2 := hpush.pool.blk.lt
      simp only [List.getElem?_toArray, List.getElem?_cons_zero, List.getElem?_cons_succ] at fb1 p1
      obtain ⟨gt, hgt⟩ : ∃ gt, decide (L'.flushed < m.x.lsn) = gt := ⟨_, rfl⟩
      have HLe : Hid (gt = false → ∀ x ∈ xs ++ [(m.x, Value.slice (some ⟨kb, ko, none⟩) 480 cc)], x.1.lsn ≤ L'.flushed) := fun hf x hx => by
        rw [hf, decide_eq_false_iff_not] at hgt
        rcases List.mem_append.1 hx with hx | hx
        · exact HLs.out x hx
        · rw [List.mem_singleton] at hx
          rw [hx]
          show m.x.lsn ≤ _
          omega
      have HLe2 : Hid (∀ x ∈ xs ++ [(m.x, Value.slice (some ⟨kb, ko, none⟩) 480 cc)], x.1.lsn ≤ L'.next - 1) := fun x hx => by
        rcases List.mem_append.1 hx with hx | hx
        · have h1 := HLs.out x hx
          have h2 := HSt.out.und.lh.fl
          have h3 := HSt.out.und.lh.nx
          omega
        · rw [List.mem_singleton] at hx
          rw [hx]
          show m.x.lsn ≤ _
          have h1 := (HKk.out _ (List.mem_of_getElem? HY.out)).1
          have h2 := HSt.out.same.next
          dsimp only at h1
          omega
      clear hpush hfb' rq' rb'
      have hS : Fr Nob w7 w7.drew := (Fr.refl _ w7).drew
      refine Rg.begin (Fr Nob w7) [] (by kernel_rfl) ?_
      refine Rg.op 0 (some 25) hS (v := ?v0a) (hy := fun wz hwz => ?h0a) (h := ?_)
      case h0a => (go_simp; try with_reducible rfl)
      refine Rg.op 1 (some 26) hS (v := ?v1a) (hy := fun wz hwz => ?h1a) (h := ?_)
      case h1a => (have hpp := Nat.lt_of_lt_of_le zb2 hwz.size; go_simp; try with_reducible rfl)
      refine Rg.op 2 (some 27) hS (v := ?v2a) (hy := fun wz hwz => ?h2a) (h := ?_)
      case h2a => (go_simp; try with_reducible rfl)
      refine Rg.op 3 (some 28) hS (v := ?v3a) (hy := fun wz hwz => ?h3a) (h := ?_)
      case h3a => (go_simp; try with_reducible rfl)
      refine Rg.op 4 (some 29) hS (v := (.int .u64 m.x.lsn)) (hy := fun wz hwz => ?h4a) (h := ?_)
      case h4a => (have cx := (hwz.cell (p := ⟨b, 1, none⟩) zb2 (fun h => h)).trans fb1; have hpp := Nat.lt_of_lt_of_le zb2 hwz.size; go_simp; try with_reducible rfl)
      refine Rg.op 5 (some 30) hS (v := ?v5a) (hy := fun wz hwz => ?h5a) (h := ?_)
      case h5a => (go_simp; try with_reducible rfl)
      refine Rg.op 6 (some 31) hS (v := ?v6a) (hy := fun wz hwz => ?h6a) (h := ?_)
      case h6a => (have hpp := Nat.lt_of_lt_of_le zp2 hwz.size; go_simp; try with_reducible rfl)
      refine Rg.op 7 (some 32) hS (v := ?v7a) (hy := fun wz hwz => ?h7a) (h := ?_)
      case h7a => (go_simp; try with_reducible rfl)
      refine Rg.op 8 (some 33) hS (v := (.pointer (some ⟨l, 0, none⟩))) (hy := fun wz hwz => ?h8a) (h := ?_)
      case h8a => (have cx := (hwz.cell (p := ⟨p, 1, none⟩) zp2 (fun h => h)).trans p1; have hpp := Nat.lt_of_lt_of_le zp2 hwz.size; go_simp; try with_reducible rfl)
      refine Rg.call 9 (some 34) (hrun := ?h9a) (hcall := Flushed_any (HSt7.out.und.log.new hS)) (h := ?_)
      case h9a => (go_simp)
      rintro e w3 ⟨rfl, rfl⟩
      refine ⟨_, ?a9a, rfl, ?b9a, (fun _ => hS), ?_⟩
      case b9a => (simp only [Act.put, List.setIfInBounds_toArray, List.set_cons_zero, List.set_cons_succ]; rfl)
      refine Rg.op 10 (some 35) hS (v := (.bool gt)) (hy := fun wz hwz => ?h10a) (h := ?_)
      case h10a => (have hq := hgt; go_simp; try with_reducible rfl)
      refine Rg.done _ (h := ?_)
      cases gt
      · go_wp2
        go_roundw
        case rel => exact ⟨k + 1, xs ++ [(m.x, Value.slice (some ⟨kb, ko, none⟩) 480 cc)], by omega, by go_num, HXs7, L', S', RD', HSt7.out.new ((Fr.refl _ w7).drew), HLe.out rfl⟩
        case measure => simp [intOf]; omega
      · have HSt7d := Lib.hid (HSt7.out.new hS)
        have p1 : w7.drew.cell? ⟨p, 1, none⟩ = some (.pointer (some ⟨l, 0, none⟩)) := p1
        have zp2 : p < w7.drew.heap.size := zp2
        go_wp2_with fail
        refine HSt7d.out.flushed.mono ?_
        rintro e w8 (⟨rfl, L8, S8, RD8, hst8, hfl8⟩ | ⟨rfl, hlost⟩)
        rotate_left
        · have HLo := Lib.hid (HLost.out _ hlost)
          clear hlost
          go_wp2
          go_ret
          exact .inr ⟨rfl, HLo.out⟩
        have HFl8 := Lib.hid hfl8
        clear hfl8
        have HSt8 := Lib.hid hst8
        clear hst8
        go_wp2
        go_roundw
        case rel => exact ⟨k + 1, xs ++ [(m.x, Value.slice (some ⟨kb, ko, none⟩) 480 cc)], by omega, by go_num, HXs7, L8, S8, RD8, HSt8.out, fun x hx => by rw [HFl8.out]; exact HLe2.out x hx⟩
        case measure => simp [intOf]; omega
    · obtain rfl : k = n := by omega
      obtain ⟨A', c', e5, hpg⟩ := hst.pgs
      subst e5
      obtain ⟨hxl, hxm⟩ := hxs.out
      rw [List.take_of_length_le (by rw [HN.out]; exact Nat.le_refl _)] at hxm
      have HSt := Lib.hid hst
      have HXm := Lib.hid hxm
      have HPg := Lib.hid hpg
      have hget : ∀ (i : Nat) x, xs[i]? = some x → ∃ y, ys[i]? = some y ∧ y.2.x = x.1 := fun i x hx => by
        have := congrArg (fun l => l[i]?) hxm
        simp only [List.getElem?_map, hx, Option.map_some] at this
        obtain ⟨y, hy, e⟩ := Option.map_eq_some_iff.1 this.symm
        exact ⟨y, hy, e⟩
      have hwr := hst.und.write A' c' xs hpg (fun x hx => by
        obtain ⟨i, hi⟩ := List.mem_iff_getElem?.1 hx
        obtain ⟨y, hy, e⟩ := hget i x hi
        obtain ⟨k1, k2⟩ := HOk.out y (HYs.out y (List.mem_of_getElem? hy))
        rw [e] at k1 k2
        have k3 := (HKk.out y (List.mem_of_getElem? hy)).2
        rw [e] at k3
        exact ⟨k1, by rw [← hp8]; exact k2, HLs.out x hx, k3⟩) (by omega) (by omega) (fun i j x y hx hy e => by
        obtain ⟨x', hx', e1⟩ := hget i x hx
        obtain ⟨y', hy', e2⟩ := hget j y hy
        exact HDis.out i j x' y' hx' hy' (by rw [e1, e2]; exact e)) hT
      rw [hxm, hxl] at hwr
      have HWr := Lib.hid hwr
      have p0 := hst.pool.blk.cell 0
      have zp := hst.pool.blk.lt
      simp only [List.getElem?_toArray, List.getElem?_cons_zero, List.getElem?_cons_succ] at p0
      rw [hxl]
      clear hst hxs hxm hpg hget hwr
      go_wp2_with fail
      refine HWr.out.mono ?_
      rintro e w1 (⟨rfl, S1, RD1, hu1, hsub1, hf1⟩ | ⟨rfl, hlost⟩)
      rotate_left
      · have HLo : Hid (LostE w w1 d RD (fun b => RP b ∨ RL b ∨ RD b ∨ b = f)) := by
          refine hlost.after (V := fun b => RP b ∨ RL b ∨ RD b ∨ b = f) (HSt.out.fr.mono (fun b _ e => by
            rcases e with e | e
            · exact .inr (.inl e)
            · exact .inr (.inr (.inl e)))) HSt.out.sub (fun b hb e => ?_)
          rcases e with e | e
          · rcases HSt.out.sub b e with e | e
            · exact .inr (.inr (.inl e))
            · omega
          · exact .inr (.inr (.inr e))
        clear hlost
        go_wp2
        go_ret
        exact .inr ⟨rfl, HLo.out⟩
      have hpool1 : PoolAt RP RQ w1 p f l frames hand B rv fs := HSt.out.pool.fr hf1 (fun b hb e => by
        rcases e with e | e
        · exact (HSt.out.ap b (.inl hb)).2.1 e
        · exact (HSt.out.ap b (.inl hb)).2.2 e) (fun b hb e => by
        rcases e with e | e
        · exact (HSt.out.ap b (.inr hb)).2.1 e
        · exact (HSt.out.ap b (.inr hb)).2.2 e)
      have HP1 := Lib.hid hpool1
      have HU1 := Lib.hid hu1
      have HSub1 := Lib.hid hsub1
      have HF1 := Lib.hid hf1
      have HCell : Hid (∀ W, Fr RP w1 W → ∀ (j : Nat) y, ys[j]? = some y → W.cell? ⟨ga, j, none⟩ = some (.pointer (some ⟨y.1, 0, none⟩)) ∧ ga < W.heap.size) := fun W hW j y hy => by
        obtain ⟨g', eg, hgb, hgc⟩ := HSt.out.ptr (by rw [HN.out]; omega)
        injection eg with eg
        injection eg with eg
        subst eg
        have c0 := hgc j y hy
        have z0 := cell_lt c0
        have c1 := (hf1.cell (p := ⟨ga, j, none⟩) z0 (fun e => by
          rcases e with e | e
          · rcases HSt.out.sub _ e with e | e
            · exact hgb (.inr (.inr (.inl e)))
            · exact hgb (.inr (.inr (.inr (.inr e))))
          · exact hgb (.inr (.inr (.inr (.inl e)))))).trans c0
        have z1 := cell_lt c1
        exact ⟨(hW.cell (p := ⟨ga, j, none⟩) z1 (fun e => hgb (.inl e))).trans c1, Nat.lt_of_lt_of_le z1 hW.size⟩
      clear hpool1 hu1 hsub1 hf1 HWr p0 zp
      go_wp2
      try (rw [qP]; go_wp2)
      go_loopw [11, 56] (fun _ iv wq => ∃ j : Nat, j ≤ k ∧ iv = .int .i64 j ∧ Hid (PoolAt RP RQ wq p f l frames hand B rv (cleanF ((ys.take j).map (·.2.x.no)) fs)) ∧ Hid (Fr RP w1 wq)) (fun _ iv _ => k - (intOf iv).toNat)
      case atStart => exact ⟨0, by omega, rfl, by rw [List.take_zero, List.map_nil, cleanF_nil]; exact HP1, Fr.refl _ _⟩
      case round =>
        obtain ⟨j, hj, rfl, hpq, hfq⟩ := hrel
        by_cases hlt : j < k
        · obtain ⟨y, hy⟩ : ∃ y, ys[j]? = some y := ⟨_, List.getElem?_eq_getElem (by rw [HN.out]; exact hlt)⟩
          obtain ⟨cg, zg⟩ := HCell.out _ hfq.out j y hy
          have HY := Lib.hid hy
          obtain ⟨i, hi⟩ := List.mem_iff_getElem?.1 (HYs.out y (List.mem_of_getElem? hy))
          have HI := Lib.hid hi
          obtain ⟨mm, hmm⟩ : ∃ mm, (cleanF ((ys.take j).map (·.2.x.no)) fs)[i]? = some mm := ⟨_, cleanF_get hi⟩
          have hm1 : mm.1 = y.1 ∧ mm.2.x = y.2.x ∧ mm.2.used = y.2.used := by
            rw [cleanF_get hi] at hmm
            injection hmm with hmm
            subst hmm
            split <;> exact ⟨rfl, rfl, rfl⟩
          obtain ⟨b, m⟩ := mm
          have HMm := Lib.hid hmm
          have HM1 := Lib.hid hm1
          have e1 : b = y.1 := hm1.1
          rw [← e1] at cg
          obtain ⟨rb, kb, ko, cc, rq, hfb, hbs⟩ := hpq.out.frm _ (List.mem_of_getElem? hmm)
          dsimp only at rb hfb hbs
          have HFb := Lib.hid hfb
          have HBs := Lib.hid hbs
          have HRq := Lib.hid rq
          have fb3 := hfb.cell 3
          have fq3 := hfb.frozen 3
          have zb := hfb.lt
          simp only [List.getElem?_toArray, List.getElem?_cons_zero, List.getElem?_cons_succ] at fb3
          have kk0 : (j : Int) < (k : Int) := by omega
          have kk1 : (0 : Int) ≤ (j : Int) := by omega
          have e8 : IntKind.i64.wrap ((j : Int) + 1) = (j : Int) + 1 := by rw [IntKind.wrap_i64]; omega
          clear hy hi hmm hm1 e1 hfb hbs rq
          go_wp2
          have hfs : Fr (fun x => x = b) _ _ := (Fr.refl (fun x => x = b) wr).setCell (p := ⟨b, 3, none⟩) (.inr rfl) (.bool false)
          have hm' : FrmAt RP RQ (wr.setCell ⟨b, 3, none⟩ (.bool false)) b { m with dirty := false } := ⟨rb, kb, ko, cc, HRq.out, HFb.out.set_ 3 _, HBs.out.fr hfs (fun a ha e => by injection ha with ha; subst ha; exact hpq.out.ap b rb (e ▸ HRq.out))⟩
          have hstep := hpq.out.setF (m' := { m with dirty := false }) HMm.out hfs rfl hm'
          have hcl := cleanF_step HI.out (fun j' z hz e => HPdis.out j' i z y hz HI.out e) HMm.out
          dsimp only at hcl
          rw [hcl] at hstep
          go_roundw
          case rel => exact ⟨j + 1, by omega, by go_num, by rw [List.take_add_one, HY.out, List.map_append]; exact hstep, hfq.out.setCell (p := ⟨b, 3, none⟩) (.inr rb) _⟩
          case measure => simp [intOf]; omega
        · obtain rfl : j = k := by omega
          have HPq := Lib.hid hpq.out
          have HFq := Lib.hid hfq.out
          clear hpq hfq
          go_wp2
          go_ret
          refine .inl ⟨rfl, L', S1, RD1, ?_, ?_, HSt.out.same, ?_, ?_⟩
          · have := HPq.out
            rwa [List.take_of_length_le (by rw [HN.out]; exact Nat.le_refl _)] at this
          · have hF := HFq.out
            exact HU1.out.fr hF (fun b hb e => (HSt.out.ap b (.inl e)).1 hb) (fun b hb e => by
              rcases HSub1.out b hb with h | h
              · exact (HSt.out.ap b (.inl e)).2.1 h
              · have := HSt.out.pool.lt b e; omega) (fun e => (HSt.out.ap f (.inl e)).2.2 rfl)
          · intro b hb
            rcases HSub1.out b hb with h | h
            · exact HSt.out.sub b h
            · have := HSt.out.fr.size; exact .inr (by omega)
          · have hF := HFq.out
            have hG := HF1.out
            have hH := HSt.out.fr
            refine ((hH.mono (fun b _ e => .inr (e.elim .inl (fun e => .inr (.inl e)))) : Fr (fun b => RP b ∨ RL b ∨ RD b ∨ b = f) _ _).step hG (fun i hi e => ?_)).step hF (fun i hi e => .inl e)
            rcases e with e | e
            · rcases HSt.out.sub i e with e | e
              · exact .inr (.inr (.inl e))
              · omega
            · exact .inr (.inr (.inr e))
end
end Go.Proofs.YtccmmnacejdeoaaGreatDoor
