/-
  What a crash leaves of a Write that the disk died in, wherever it died, whatever is kept (plain).
-/
import Derived.Test.YtilclfeaolhoeaaDoorPgMix
import Derived.Test.YtilclfeaolhoeaaDoorPgCalm
namespace Go.Proofs.YtilclfeaolhoeaaDoor
set_option linter.unusedSimpArgs false
set_option linter.unusedVariables false
open Go.RowKit

abbrev Core := List (List UInt8) × List (List UInt8) × List (Nat × List UInt8)
def core (S : DS) : Core := (S.now, S.last, S.waits)
def exec1 (c : Core) : WOp → Core
  | .wr i s => (c.1.set i s, c.2.1, c.2.2 ++ [(i, s)])
  | .fl => (c.1, setAll c.2.1 c.2.2, [])
def exec (c : Core) (l : List WOp) : Core := l.foldl exec1 c
theorem core_next (S : DS) (o : WOp) : core (o.next S) = exec1 (core S) o := by
  cases o with
  | wr i s =>
    show core (S.wr i s) = _
    unfold DS.wr DS.burn
    split <;> rfl
  | fl =>
    show core S.flush = _
    unfold DS.flush DS.burn
    split <;> rfl
theorem run_prefix : ∀ (O : List WOp) (S : DS), ∃ k, k ≤ O.length ∧ core (runs S O).1 = exec (core S) (O.take k) ∧ ((k = O.length ∧ (runs S O).2 = 0) ∨ (k < O.length ∧ (runs S O).2 = 50))
  | [], S => ⟨0, by simp, rfl, .inl ⟨rfl, rfl⟩⟩
  | o :: l, S => by
    by_cases h : S.dead = true
    · have e : runs S (o :: l) = (S, 50) := by unfold runs; rw [if_pos h]
      rw [e]
      exact ⟨0, by simp, rfl, .inr ⟨by simp, rfl⟩⟩
    · have e : runs S (o :: l) = runs (o.next S) l := by conv => lhs; unfold runs; rw [if_neg h]
      rw [e]
      obtain ⟨k, k1, k2, k3⟩ := run_prefix l (o.next S)
      refine ⟨k + 1, by rw [List.length_cons]; omega, ?_, ?_⟩
      · rw [k2, core_next]; rfl
      · rcases k3 with ⟨a, b⟩ | ⟨a, b⟩
        · exact .inl ⟨by rw [List.length_cons, a], b⟩
        · exact .inr ⟨by rw [List.length_cons]; omega, b⟩
/-- The writes of a run. -/
def wrs : List WOp → List (Nat × List UInt8)
  | [] => []
  | .wr i s :: l => (i, s) :: wrs l
  | .fl :: l => wrs l
theorem wrs_append (a b : List WOp) : wrs (a ++ b) = wrs a ++ wrs b := by
  induction a with
  | nil => rfl
  | cons o l ih => cases o <;> simp [wrs, ih]
def noFl : List WOp → Prop
  | [] => True
  | .wr _ _ :: l => noFl l
  | .fl :: _ => False
theorem noFl_append : ∀ (a b : List WOp), noFl a → noFl b → noFl (a ++ b)
  | [], _, _, hb => hb
  | .wr _ _ :: l, b, ha, hb => noFl_append l b ha hb
theorem noFl_take : ∀ (a : List WOp) (k : Nat), noFl a → noFl (a.take k)
  | [], _, _ => by rw [List.take_nil]; trivial
  | _ :: _, 0, _ => trivial
  | .wr _ _ :: l, k + 1, h => noFl_take l k h
theorem noFl_sec (i : Nat) (b : List UInt8) : ∀ k, noFl (secOps i b k)
  | 0 => trivial
  | k + 1 => noFl_append _ _ (noFl_sec i b k) trivial
theorem noFl_plc (sp t : Nat) (l : List PgV) : ∀ k, noFl (plcOps sp t l k)
  | 0 => trivial
  | k + 1 => by
    cases hx : l[k]? with
    | some x => rw [plcOps_some hx]; exact noFl_append _ _ (noFl_plc sp t l k) (noFl_sec _ _ _)
    | none => rw [plcOps_none hx]; exact noFl_plc sp t l k
theorem noFl_lay (at0 : Nat) (l : List PgV) : ∀ k, noFl (layOps at0 l k)
  | 0 => trivial
  | k + 1 => by
    cases hx : l[k]? with
    | some x => rw [layOps_some hx]; exact noFl_append _ _ (noFl_lay at0 l k) (noFl_sec _ _ _)
    | none => rw [layOps_none hx]; exact noFl_lay at0 l k
theorem exec_wrs : ∀ (l : List WOp) (n m : List (List UInt8)) (w : List (Nat × List UInt8)), noFl l → exec (n, m, w) l = (nowOps n l, m, w ++ wrs l)
  | [], n, m, w, _ => by show (n, m, w) = (n, m, w ++ []); rw [List.append_nil]
  | .wr i s :: l, n, m, w, h => by
    show exec (n.set i s, m, w ++ [(i, s)]) l = (nowOps (n.set i s) l, m, w ++ ((i, s) :: wrs l))
    rw [exec_wrs l _ _ _ h, List.append_assoc]; rfl
theorem setAll_ops : ∀ (l : List WOp) (n : List (List UInt8)), setAll n (wrs l) = nowOps n l
  | [], _ => rfl
  | .wr i s :: l, n => setAll_ops l (n.set i s)
  | .fl :: l, n => setAll_ops l n
theorem exec_append (c : Core) (a b : List WOp) : exec c (a ++ b) = exec (exec c a) b := List.foldl_append ..
theorem mem_wrs_take {l : List WOp} {k : Nat} {y : Nat × List UInt8} (h : y ∈ wrs (l.take k)) : y ∈ wrs l := by
  have : wrs l = wrs (l.take k) ++ wrs (l.drop k) := by rw [← wrs_append, List.take_append_drop]
  rw [this]
  exact List.mem_append_left _ h
/-- Ahead of the first flush, or behind it. -/
theorem crash_cases {S : DS} (W L : List WOp) (hW : noFl W) (hL : noFl L) (hl : S.last = S.now) (hw : S.waits = []) (keep : List Int) :
    ((runs S ((W ++ [.fl]) ++ (L ++ [.fl]))).2 = 50 ∧ ∃ ys, (∀ y ∈ ys, y ∈ wrs W) ∧ ((runs S ((W ++ [.fl]) ++ (L ++ [.fl]))).1.crash keep).now = setAll S.now ys) ∨
    (((runs S ((W ++ [.fl]) ++ (L ++ [.fl]))).2 = 0 ∨ (runs S ((W ++ [.fl]) ++ (L ++ [.fl]))).2 = 50) ∧ ∃ ys, (∀ y ∈ ys, y ∈ wrs L) ∧ ((runs S ((W ++ [.fl]) ++ (L ++ [.fl]))).1.crash keep).now = setAll (nowOps S.now W) ys) := by
  obtain ⟨k, k1, k2, k3⟩ := run_prefix ((W ++ [.fl]) ++ (L ++ [.fl])) S
  obtain ⟨S', hS'⟩ : ∃ S', (runs S ((W ++ [.fl]) ++ (L ++ [.fl]))).1 = S' := ⟨_, rfl⟩
  rw [hS'] at k2 ⊢
  have hcr : (S'.crash keep).now = setAll S'.last (chosen keep S'.waits) := rfl
  have hlen : ((W ++ [WOp.fl]) ++ (L ++ [WOp.fl])).length = W.length + 1 + (L.length + 1) := by simp; omega
  have hc0 : core S = (S.now, S.now, []) := by unfold core; rw [hl, hw]
  by_cases hk : k ≤ W.length
  · left
    refine ⟨by rcases k3 with k3 | k3; omega; exact k3.2, chosen keep S'.waits, ?_, ?_⟩
    all_goals
      rw [List.append_assoc, List.take_append_of_le_length hk, hc0, exec_wrs _ _ _ _ (noFl_take _ _ hW), List.nil_append] at k2
      have e2 : S'.last = S.now := congrArg (fun c => c.2.1) k2
      have e3 : S'.waits = wrs (W.take k) := congrArg (fun c => c.2.2) k2
    · intro y hy
      have := mem_chosen hy
      rw [e3] at this
      exact mem_wrs_take this
    · rw [hcr, e2]
  · right
    refine ⟨by rcases k3 with k3 | k3; exact .inl k3.2; exact .inr k3.2, ?_⟩
    have e1 : ((W ++ [WOp.fl]) ++ (L ++ [WOp.fl])).take k = (W ++ [WOp.fl]) ++ (L ++ [WOp.fl]).take (k - (W.length + 1)) := by
      rw [List.take_append, List.take_of_length_le (by simp; omega)]
      simp
    have e0 : exec (core S) (W ++ [.fl]) = (nowOps S.now W, nowOps S.now W, []) := by
      rw [exec_append, hc0, exec_wrs _ _ _ _ hW, List.nil_append]
      show (nowOps S.now W, setAll S.now (wrs W), []) = _
      rw [setAll_ops]
    rw [e1, exec_append, e0] at k2
    by_cases hk2 : k - (W.length + 1) ≤ L.length
    · rw [List.take_append_of_le_length hk2, exec_wrs _ _ _ _ (noFl_take _ _ hL), List.nil_append] at k2
      have e2 : S'.last = nowOps S.now W := congrArg (fun c => c.2.1) k2
      have e3 : S'.waits = wrs (L.take (k - (W.length + 1))) := congrArg (fun c => c.2.2) k2
      refine ⟨chosen keep S'.waits, fun y hy => ?_, by rw [hcr, e2]⟩
      have := mem_chosen hy
      rw [e3] at this
      exact mem_wrs_take this
    · rw [List.take_of_length_le (by simp; omega), exec_append, exec_wrs _ _ _ _ hL, List.nil_append] at k2
      have e2 : S'.last = setAll (nowOps S.now W) (wrs L) := congrArg (fun c => c.2.1) k2
      have e3 : S'.waits = [] := congrArg (fun c => c.2.2) k2
      refine ⟨wrs L, fun y hy => hy, ?_⟩
      rw [hcr, e2, e3]; rfl
theorem crash_still {S : DS} (keep : List Int) : Still (S.crash keep) := ⟨⟨rfl, rfl, rfl⟩, rfl⟩
theorem setAll_at : ∀ (ys : List (Nat × List UInt8)) (n : List (List UInt8)) (j : Nat), (setAll n ys)[j]? = n[j]? ∨ ∃ y ∈ ys, y.1 = j ∧ (setAll n ys)[j]? = some y.2
  | [], _, _ => .inl rfl
  | y :: ys, n, j => by
    have e : setAll n (y :: ys) = setAll (n.set y.1 y.2) ys := rfl
    rw [e]
    rcases setAll_at ys (n.set y.1 y.2) j with h | ⟨z, hz, h1, h2⟩
    · by_cases hj : y.1 = j
      · by_cases hl : j < n.length
        · right
          refine ⟨y, .head _, hj, ?_⟩
          rw [h, List.getElem?_set, if_pos hj, if_pos (by omega)]
        · left
          rw [h, List.getElem?_set, if_pos hj, if_neg (by omega), List.getElem?_eq_none (by omega)]
      · left
        rw [h, List.getElem?_set, if_neg hj]
    · exact .inr ⟨z, .tail _ hz, h1, h2⟩
theorem wrs_sec (i : Nat) (b : List UInt8) : ∀ (n : Nat) (y : Nat × List UInt8), y ∈ wrs (secOps i b n) → ∃ t, t < n ∧ y = (i + t, secL b t)
  | 0, y, h => by simp [secOps, wrs] at h
  | n + 1, y, h => by
    rw [secOps, wrs_append, List.mem_append] at h
    rcases h with h | h
    · obtain ⟨t, h1, h2⟩ := wrs_sec i b n y h
      exact ⟨t, by omega, h2⟩
    · simp only [wrs, List.mem_singleton] at h
      exact ⟨n, by omega, h⟩
theorem secL_sec {now : List (List UInt8)} (hs : ∀ (j : Nat) s, now[j]? = some s → s.length = 64) (i n : Nat) (h : i + n ≤ now.length) (t : Nat) (ht : t < n) : now[i + t]? = some (secL (secN now i n) t) := secN_piece hs i n h t ht
end Go.Proofs.YtilclfeaolhoeaaDoor
