/-
  Runs on a disk that nothing threatens; a file that is opened as it was left (plain).
-/
import Derived.Test.YtilclfeaolhoeaaDoorPgWrite
import Derived.Test.YtilclfeaolhoeaaDoorPgRd
namespace Go.Proofs.YtilclfeaolhoeaaDoor
set_option linter.unusedSimpArgs false
set_option linter.unusedVariables false
open Go.RowKit

/-- What is read behind writes and flushes. -/
def nowOps : List (List UInt8) → List WOp → List (List UInt8)
  | now, [] => now
  | now, .wr i s :: l => nowOps (now.set i s) l
  | now, .fl :: l => nowOps now l
theorem nowOps_append (a b : List WOp) : ∀ now, nowOps now (a ++ b) = nowOps (nowOps now a) b := by
  induction a with
  | nil => intro now; rfl
  | cons o l ih => intro now; cases o <;> exact ih _
theorem Calm.fl {S : DS} (h : Calm S) : Calm S.flush ∧ S.flush.now = S.now ∧ S.flush.waits = [] := by
  have e : S.flushed = S.flush := by unfold DS.flushed; rw [if_neg (by rw [h.dead]; decide)]
  have := h.flushed
  rw [e] at this
  have e2 := h.flushed_eq
  rw [e] at e2
  exact ⟨this, by rw [e2], by rw [e2]⟩
theorem runs_calm (l : List WOp) : ∀ {S : DS}, Calm S → (runs S l).2 = 0 ∧ Calm (runs S l).1 ∧ (runs S l).1.now = nowOps S.now l := by
  induction l with
  | nil => intro S h; exact ⟨rfl, h, rfl⟩
  | cons o l ih =>
    intro S h
    have e : runs S (o :: l) = runs (o.next S) l := by conv => lhs; unfold runs; rw [if_neg (by rw [h.dead]; decide)]
    rw [e]
    cases o with
    | wr i s =>
      have := ih (h.wr i s)
      rw [h.wr_now] at this
      exact this
    | fl =>
      have := ih h.fl.1
      rw [h.fl.2.1] at this
      exact this
theorem runs_fl {S : DS} (h : Calm S) (l : List WOp) : (runs S (l ++ [.fl])).1.waits = [] := by
  have hc := runs_calm l h
  rw [runs_snoc hc.1, if_neg (by rw [hc.2.1.dead]; decide)]
  exact hc.2.1.fl.2.2
theorem nowOps_sec (i : Nat) (b : List UInt8) (now : List (List UInt8)) : ∀ k, nowOps now (secOps i b k) = wrNow now i b k
  | 0 => rfl
  | k + 1 => by rw [secOps, nowOps_append, nowOps_sec i b now k]; rfl
theorem nowOps_lay (at0 : Nat) (l : List PgV) (now : List (List UInt8)) : ∀ k, nowOps now (layOps at0 l k) = layNow now at0 l k
  | 0 => rfl
  | k + 1 => by
    cases hx : l[k]? with
    | some x =>
      rw [layOps_some hx, nowOps_append, nowOps_lay at0 l now k, nowOps_sec]
      conv => rhs; unfold layNow
      rw [hx]
    | none =>
      rw [layOps_none hx, nowOps_lay at0 l now k]
      conv => rhs; unfold layNow
      rw [hx]
theorem nowOps_plc (sp t : Nat) (l : List PgV) (now : List (List UInt8)) : ∀ k, nowOps now (plcOps sp t l k) = plcNow now sp t l k
  | 0 => rfl
  | k + 1 => by
    cases hx : l[k]? with
    | some x =>
      rw [plcOps_some hx, nowOps_append, nowOps_plc sp t l now k, nowOps_sec]
      conv => rhs; unfold plcNow
      rw [hx]
    | none =>
      rw [plcOps_none hx, nowOps_plc sp t l now k]
      conv => rhs; unfold plcNow
      rw [hx]
theorem nowOps_write (at0 pages t : Nat) (l : List PgV) (now : List (List UInt8)) : nowOps now (writeOps at0 pages t l) = wrote now at0 pages t l := by
  unfold writeOps wrote
  rw [nowOps_append, nowOps_append, nowOps_append, nowOps_append, nowOps_plc, nowOps_sec, nowOps_lay]; rfl

theorem lfW0_zeros : lfW0 (zeros 64) = false := by
  unfold lfW0
  rw [Bool.and_eq_false_iff]
  right
  rw [beq_eq_false_iff_ne]
  intro e
  have := congrArg (fun l => l[0]?) e
  simp only [lot_first] at this
  cases this
theorem lfTurn_le {now : List (List UInt8)} {sp T : Nat} {h : List UInt8} (h0 : (if lfW0 h = true then lfT h else 0) = T) (hp : ∀ j, j < 8 → pgOk (lfB now sp j) = true → pgTurn (lfB now sp j) ≤ T) : ∀ k, k ≤ 8 → lfTurn now sp 0 h k = T
  | 0, _ => h0
  | k + 1, hk => by
    conv => lhs; unfold lfTurn
    rw [lfTurn_le h0 hp k (by omega)]
    split
    · rename_i hok
      have := hp k (by omega) hok
      omega
    · rfl
theorem PSt.left {now : List (List UInt8)} {at0 pages T : Nat} {lot : List PgV} {cur : Nat → Option PgV} (h : PSt now at0 pages T lot cur) : ∃ hb, now[at0 + 8 * pages]? = some hb ∧ lfRes now (at0 + 8 * pages) pages hb = lot ∧ lfTurn now (at0 + 8 * pages) 0 hb 8 = T := by
  refine ⟨_, h.head, ?_⟩
  have hT := h.Tlt
  have hpl : ∀ j, j < 8 → pgOk (lfB now (at0 + 8 * pages) j) = true → pgTurn (lfB now (at0 + 8 * pages) j) ≤ T := by
    intro j hj hok
    obtain ⟨q, q1, q2, _⟩ := h.place j hj
    unfold lfB at hok ⊢
    rw [q1] at hok ⊢
    cases q with
    | none => rw [show plcB none = zeros 512 from rfl, zeros_notok] at hok; cases hok
    | some x =>
      obtain ⟨k1, k2⟩ := q2 x rfl
      rw [show plcB (some x) = imgB x.1 x.2 from rfl, img_turn x.1 x.2 k1.d (by omega)]
      exact k2
  by_cases hl : lot = []
  · subst hl
    rw [if_pos rfl]
    refine ⟨?_, lfTurn_le (by rw [if_neg (by rw [lfW0_zeros]; decide)]; exact (h.T0 rfl).symm) hpl 8 (Nat.le_refl _)⟩
    unfold lfRes
    rw [if_neg (fun hw => by have := lfWh_w0 8 hw; rw [lfW0_zeros] at this; cases this)]
  · rw [if_neg hl]
    have h8 := h.l8
    have e1 : lfT (lotB T lot.length) = T := lot_turn T lot.length (by omega)
    have e2 : lfN (lotB T lot.length) = lot.length := lot_n T lot.length (by omega)
    have e3 : lfW0 (lotB T lot.length) = true := by unfold lfW0; rw [e1, e2, decide_eq_true h8]; simp
    have hat : ∀ j x, lot[j]? = some x → lfB now (at0 + 8 * pages) j = imgB x T := by
      intro j x hx
      have hj : j < lot.length := (List.getElem?_eq_some_iff.1 hx).1
      obtain ⟨q, q1, _, q3⟩ := h.place j (by omega)
      unfold lfB
      rw [q1, q3 x hx]; rfl
    have hwh : ∀ k, k ≤ 8 → lfWh now (at0 + 8 * pages) pages (lotB T lot.length) k = true := by
      intro k
      induction k with
      | zero => intro _; exact e3
      | succ k ih =>
        intro hk
        unfold lfWh
        rw [e2, ih (by omega)]
        split
        · rename_i hkl
          have hx := List.getElem?_eq_getElem hkl
          obtain ⟨x1, x2, _⟩ := h.lok _ (List.mem_of_getElem? hx)
          rw [hat k _ hx, img_ok _ _ x1 (by omega), img_turn _ _ x1.d (by omega), img_x _ _ x1, e1]
          simp [x2]
        · rfl
    refine ⟨?_, lfTurn_le (by rw [if_pos e3, e1]) hpl 8 (Nat.le_refl _)⟩
    unfold lfRes
    rw [if_pos (hwh 8 (Nat.le_refl _)), e2]
    refine List.ext_getElem? (fun j => ?_)
    unfold lfL
    rw [List.getElem?_map]
    by_cases hj : j < lot.length
    · rw [List.getElem?_range hj, List.getElem?_eq_getElem hj, Option.map_some, hat j _ (List.getElem?_eq_getElem hj), img_x _ _ (h.lok _ (List.getElem_mem hj)).1]
    · rw [List.getElem?_eq_none (by rw [List.length_range]; omega), List.getElem?_eq_none (by omega)]; rfl
/-- A calm disk on which nothing waits. -/
structure Still (S : DS) : Prop where
  calm : Calm S
  waits : S.waits = []
theorem Still.runs {S : DS} (h : Still S) (l : List WOp) : (runs S (l ++ [.fl])).2 = 0 ∧ Still (runs S (l ++ [.fl])).1 ∧ (runs S (l ++ [.fl])).1.now = nowOps S.now l := by
  obtain ⟨a, b, c⟩ := runs_calm (l ++ [.fl]) h.calm
  exact ⟨a, ⟨b, runs_fl h.calm l⟩, by rw [c, nowOps_append]; rfl⟩
theorem Still.openRun {S : DS} (h : Still S) (at0 pages : Nat) (hb : List UInt8) : (openRun S at0 pages hb).2 = 0 ∧ Still (openRun S at0 pages hb).1 ∧ (openRun S at0 pages hb).1.now = layNow S.now at0 (lfRes S.now (at0 + 8 * pages) pages hb) (lfRes S.now (at0 + 8 * pages) pages hb).length := by
  unfold Proofs.YtilclfeaolhoeaaDoor.openRun
  split
  · rename_i he
    rw [he]
    exact ⟨rfl, h, rfl⟩
  · have := h.runs (layOps at0 (lfRes S.now (at0 + 8 * pages) pages hb) (lfRes S.now (at0 + 8 * pages) pages hb).length)
    rw [nowOps_lay] at this
    exact this
theorem Still.crash {S : DS} (h : Still S) (keep : List Int) : S.crash keep = S := h.calm.crash h.waits keep
theorem Still.set {S : DS} (h : Still S) : S.set (-1) = S := by
  have h1 := h.calm.fuse
  have h2 := h.calm.dead
  unfold DS.set
  cases S
  simp_all
theorem Still.new (n : Nat) : Still (DS.new n) := ⟨Calm.new n, rfl⟩
end Go.Proofs.YtilclfeaolhoeaaDoor
