/-
  What a file's sectors hold between two calls, and behind a Write (plain).
-/
import Derived.Test.YtilclfeaolhoeaaDoorPgState
namespace Go.Proofs.YtilclfeaolhoeaaDoor
set_option linter.unusedSimpArgs false
set_option linter.unusedVariables false
open Go.RowKit

def curB (c : Option PgV) : List UInt8 := match c with
  | none => zeros 512
  | some x => imgB x 0
def plcB (q : Option (PgV × Nat)) : List UInt8 := match q with
  | none => zeros 512
  | some x => imgB x.1 x.2
/-- The sectors of a file: the pages, the lot that was written last. -/
structure PSt (now : List (List UInt8)) (at0 pages T : Nat) (lot : List PgV) (cur : Nat → Option PgV) : Prop where
  s64 : ∀ (j : Nat) s, now[j]? = some s → s.length = 64
  len : at0 + 8 * pages + 80 ≤ now.length
  page : ∀ no, no < pages → secN now (at0 + 8 * no) 8 = curB (cur no)
  cok : ∀ no x, no < pages → cur no = some x → x.Ok ∧ x.no = no
  head : now[at0 + 8 * pages]? = some (if lot = [] then zeros 64 else lotB T lot.length)
  place : ∀ j, j < 8 → ∃ q, secN now (at0 + 8 * pages + 1 + 8 * j) 8 = plcB q ∧ (∀ x, q = some x → x.1.Ok ∧ x.2 ≤ T) ∧ (∀ x, lot[j]? = some x → q = some (x, T))
  l8 : lot.length ≤ 8
  lok : ∀ x ∈ lot, x.Ok ∧ x.no < pages ∧ cur x.no = some x
  T0 : lot = [] → T = 0
  Tlt : T < 4611686018427387904

def layNow (now : List (List UInt8)) (at0 : Nat) (l : List PgV) : Nat → List (List UInt8)
  | 0 => now
  | k + 1 => match l[k]? with
    | some x => wrNow (layNow now at0 l k) (at0 + 8 * x.no) (imgB x 0) 8
    | none => layNow now at0 l k
def plcNow (now : List (List UInt8)) (sp t : Nat) (l : List PgV) : Nat → List (List UInt8)
  | 0 => now
  | k + 1 => match l[k]? with
    | some x => wrNow (plcNow now sp t l k) (sp + 1 + 8 * k) (imgB x t) 8
    | none => plcNow now sp t l k
def curW (cur : Nat → Option PgV) (l : List PgV) : Nat → Nat → Option PgV
  | 0 => cur
  | k + 1 => match l[k]? with
    | some x => fun no => if no = x.no then some x else curW cur l k no
    | none => curW cur l k
theorem layN_now {S : DS} (h : Calm S) (at0 : Nat) (l : List (PgV × Value)) : ∀ k, (layN S at0 l k).now = layNow S.now at0 (l.map (·.1)) k
  | 0 => rfl
  | k + 1 => by
    unfold layN layNow
    rw [List.getElem?_map]
    cases l[k]? with
    | none => exact layN_now h at0 l k
    | some x =>
      show (wrAll _ _ _ _).now = wrNow _ _ _ _
      rw [wrAll_now (layN_calm h at0 l k), layN_now h at0 l k]
section
variable {now : List (List UInt8)} {at0 sp t : Nat} {l : List PgV}
theorem layNow_length : ∀ k, (layNow now at0 l k).length = now.length
  | 0 => rfl
  | k + 1 => by
    unfold layNow
    split
    · rw [wrNow_length, layNow_length k]
    · exact layNow_length k
theorem plcNow_length : ∀ k, (plcNow now sp t l k).length = now.length
  | 0 => rfl
  | k + 1 => by
    unfold plcNow
    split
    · rw [wrNow_length, plcNow_length k]
    · exact plcNow_length k
theorem wrNow_64 {b : List UInt8} {i n : Nat} (hs : ∀ (j : Nat) s, now[j]? = some s → s.length = 64) (hb : b.length = 64 * n) : ∀ k, k ≤ n → ∀ (j : Nat) s, (wrNow now i b k)[j]? = some s → s.length = 64
  | 0, _, j, s, h => hs j s h
  | k + 1, hk, j, s, h => by
    rw [wrNow, List.getElem?_set] at h
    split at h
    · split at h
      · injection h with h
        rw [← h, List.length_take, List.length_drop]; omega
      · cases h
    · exact wrNow_64 hs hb k (by omega) j s h
theorem layNow_64 (hs : ∀ (j : Nat) s, now[j]? = some s → s.length = 64) (hl : ∀ x ∈ l, x.Ok) : ∀ k, ∀ (j : Nat) s, (layNow now at0 l k)[j]? = some s → s.length = 64
  | 0 => hs
  | k + 1 => by
    unfold layNow
    split
    · rename_i x hx
      exact wrNow_64 (layNow_64 hs hl k) (by rw [imgB_length x 0 (hl x (List.mem_of_getElem? hx)).d]) 8 (Nat.le_refl _)
    · exact layNow_64 hs hl k
theorem plcNow_64 (hs : ∀ (j : Nat) s, now[j]? = some s → s.length = 64) (hl : ∀ x ∈ l, x.Ok) : ∀ k, ∀ (j : Nat) s, (plcNow now sp t l k)[j]? = some s → s.length = 64
  | 0 => hs
  | k + 1 => by
    unfold plcNow
    split
    · rename_i x hx
      exact wrNow_64 (plcNow_64 hs hl k) (by rw [imgB_length x t (hl x (List.mem_of_getElem? hx)).d]) 8 (Nat.le_refl _)
    · exact plcNow_64 hs hl k
/-- What lies behind the pages is kept. -/
theorem layNow_other {pages : Nat} (hl : ∀ x ∈ l, x.no < pages) (j : Nat) (hj : at0 + 8 * pages ≤ j) : ∀ k, (layNow now at0 l k)[j]? = now[j]?
  | 0 => rfl
  | k + 1 => by
    unfold layNow
    split
    · rename_i x hx
      have := hl x (List.mem_of_getElem? hx)
      rw [wrNow_other _ _ _ _ _ (.inr (by omega)), layNow_other hl j hj k]
    · exact layNow_other hl j hj k
theorem plcNow_other (j : Nat) (hj : j ≤ sp) : ∀ k, (plcNow now sp t l k)[j]? = now[j]?
  | 0 => rfl
  | k + 1 => by
    unfold plcNow
    split
    · rw [wrNow_other _ _ _ _ _ (.inl (by omega)), plcNow_other j hj k]
    · exact plcNow_other j hj k
theorem layNow_page {pages : Nat} {cur : Nat → Option PgV} (hok : ∀ x ∈ l, x.Ok ∧ x.no < pages) (hlen : at0 + 8 * pages ≤ now.length) (no : Nat) (hno : no < pages) (h : secN now (at0 + 8 * no) 8 = curB (cur no)) : ∀ k, secN (layNow now at0 l k) (at0 + 8 * no) 8 = curB (curW cur l k no)
  | 0 => h
  | k + 1 => by
    have ih := layNow_page hok hlen no hno h k
    unfold layNow curW
    cases hx : l[k]? with
    | none => exact ih
    | some x =>
      have hxo := hok x (List.mem_of_getElem? hx)
      dsimp only
      by_cases e : no = x.no
      · rw [if_pos e, ← e]
        exact secN_wr _ _ _ 8 (by rw [layNow_length]; omega) (imgB_length x 0 hxo.1.d)
      · rw [if_neg e, secN_wr_other _ _ _ _ _ _ (by omega)]
        exact ih
theorem plcNow_place (hok : ∀ x ∈ l, x.Ok) (hlen : sp + 80 ≤ now.length) (h8 : l.length ≤ 8) (j : Nat) (hj : j < 8) : ∀ k, k ≤ l.length → secN (plcNow now sp t l k) (sp + 1 + 8 * j) 8 = if j < k then plcB ((l[j]?).map fun x => (x, t)) else secN now (sp + 1 + 8 * j) 8
  | 0, _ => by rw [if_neg (by omega)]; rfl
  | k + 1, hk => by
    have ih := plcNow_place hok hlen h8 j hj k (by omega)
    unfold plcNow
    have hkl : k < l.length := by omega
    rw [List.getElem?_eq_getElem hkl]
    dsimp only
    by_cases e : j = k
    · subst e
      rw [if_pos (by omega), List.getElem?_eq_getElem hkl]
      exact secN_wr _ _ _ 8 (by rw [plcNow_length]; omega) (imgB_length _ t (hok _ (List.getElem_mem hkl)).d)
    · rw [secN_wr_other _ _ _ _ _ _ (by omega), ih]
      by_cases h2 : j < k
      · rw [if_pos h2, if_pos (by omega)]
      · rw [if_neg h2, if_neg (by omega)]
end
theorem curW_of (cur : Nat → Option PgV) (l : List PgV) (hd : ∀ (i j : Nat) x y, l[i]? = some x → l[j]? = some y → x.no = y.no → i = j) : ∀ k (i : Nat) x, i < k → l[i]? = some x → curW cur l k x.no = some x
  | k + 1, i, x, hi, hx => by
    unfold curW
    cases hy : l[k]? with
    | none =>
      have : i < l.length := (List.getElem?_eq_some_iff.1 hx).1
      have : l.length ≤ k := List.getElem?_eq_none_iff.1 hy
      exact curW_of cur l hd k i x (by omega) hx
    | some y =>
      dsimp only
      by_cases e : x.no = y.no
      · rw [if_pos e]
        have := hd i k x y hx hy e
        subst this
        rw [hx] at hy; exact hy.symm
      · rw [if_neg e]
        have : i ≠ k := fun e2 => by subst e2; rw [hx] at hy; injection hy with hy; exact e (by rw [hy])
        exact curW_of cur l hd k i x (by omega) hx
theorem curW_cok {cur : Nat → Option PgV} {l : List PgV} {pages : Nat} (hok : ∀ x ∈ l, x.Ok) (h : ∀ no x, no < pages → cur no = some x → x.Ok ∧ x.no = no) : ∀ k no x, no < pages → curW cur l k no = some x → x.Ok ∧ x.no = no
  | 0, no, x, hn, hx => h no x hn hx
  | k + 1, no, x, hn, hx => by
    unfold curW at hx
    cases hy : l[k]? with
    | none => rw [hy] at hx; exact curW_cok hok h k no x hn hx
    | some y =>
      rw [hy] at hx
      dsimp only at hx
      split at hx
      · rename_i e
        injection hx with hx
        subst hx
        exact ⟨hok y (List.mem_of_getElem? hy), e.symm⟩
      · exact curW_cok hok h k no x hn hx
/-- The sectors behind a Write. -/
def wrote (now : List (List UInt8)) (at0 pages t : Nat) (l : List PgV) : List (List UInt8) :=
  layNow (wrNow (plcNow now (at0 + 8 * pages) t l l.length) (at0 + 8 * pages) (lotB t l.length) 1) at0 l l.length
theorem PSt.wrote {now : List (List UInt8)} {at0 pages T : Nat} {lot : List PgV} {cur : Nat → Option PgV} (h : PSt now at0 pages T lot cur) {l : List PgV} (h0 : l ≠ []) (h8 : l.length ≤ 8) (hok : ∀ x ∈ l, x.Ok ∧ x.no < pages)
    (hd : ∀ (i j : Nat) x y, l[i]? = some x → l[j]? = some y → x.no = y.no → i = j) (hT : T + 1 < 4611686018427387904) : PSt (wrote now at0 pages (T + 1) l) at0 pages (T + 1) l (curW cur l l.length) := by
  have hln := h.len
  have hok1 : ∀ x ∈ l, x.Ok := fun x hx => (hok x hx).1
  have hok2 : ∀ x ∈ l, x.no < pages := fun x hx => (hok x hx).2
  have hpl : (plcNow now (at0 + 8 * pages) (T + 1) l l.length).length = now.length := plcNow_length _
  refine ⟨?_, ?_, ?_, curW_cok hok1 h.cok _, ?_, ?_, h8, ?_, fun e => absurd e h0, hT⟩
  · exact layNow_64 (wrNow_64 (plcNow_64 h.s64 hok1 _) (by rw [lotB_length]) 1 (Nat.le_refl _)) hok1 _
  · unfold Proofs.YtilclfeaolhoeaaDoor.wrote; rw [layNow_length, wrNow_length, hpl]; exact hln
  · intro no hno
    refine layNow_page hok (by rw [wrNow_length, hpl]; omega) no hno ?_ _
    rw [secN_wr_other _ _ _ _ _ _ (by omega), ← h.page no hno]
    exact secN_congr _ _ (fun k hk => plcNow_other _ (by omega) _)
  · unfold Proofs.YtilclfeaolhoeaaDoor.wrote
    rw [layNow_other hok2 _ (Nat.le_refl _), if_neg h0]
    have := wrNow_at (plcNow now (at0 + 8 * pages) (T + 1) l l.length) (at0 + 8 * pages) (lotB (T + 1) l.length) 0 1 (by omega) (by rw [hpl]; omega)
    refine Eq.trans this ?_
    rw [Nat.mul_zero, List.drop_zero, List.take_of_length_le (by rw [lotB_length]; omega)]
  · intro j hj
    have e1 : secN (Proofs.YtilclfeaolhoeaaDoor.wrote now at0 pages (T + 1) l) (at0 + 8 * pages + 1 + 8 * j) 8 = secN (plcNow now (at0 + 8 * pages) (T + 1) l l.length) (at0 + 8 * pages + 1 + 8 * j) 8 := by
      unfold Proofs.YtilclfeaolhoeaaDoor.wrote
      rw [secN_congr _ _ (fun k hk => layNow_other hok2 _ (by omega) _), secN_wr_other _ _ _ _ _ _ (by omega)]
    rw [e1, plcNow_place hok1 (by omega) h8 j hj l.length (Nat.le_refl _)]
    by_cases hjl : j < l.length
    · rw [if_pos hjl, List.getElem?_eq_getElem hjl]
      refine ⟨some (l[j], T + 1), rfl, fun x hx => ?_, fun x hx => ?_⟩
      · injection hx with hx; subst hx; exact ⟨hok1 _ (List.getElem_mem hjl), Nat.le_refl _⟩
      · injection hx with hx; rw [hx]
    · rw [if_neg hjl]
      obtain ⟨q, q1, q2, q3⟩ := h.place j hj
      refine ⟨q, q1, fun x hx => ⟨(q2 x hx).1, by have := (q2 x hx).2; omega⟩, fun x hx => ?_⟩
      exact absurd (List.getElem?_eq_some_iff.1 hx).1 hjl
  · intro x hx
    obtain ⟨i, hi⟩ := List.mem_iff_getElem?.1 hx
    exact ⟨hok1 x hx, hok2 x hx, curW_of cur l hd _ i x (List.getElem?_eq_some_iff.1 hi).1 hi⟩
/-- A lot that is laid again changes nothing. -/
theorem PSt.laid {now : List (List UInt8)} {at0 pages T : Nat} {lot : List PgV} {cur : Nat → Option PgV} (h : PSt now at0 pages T lot cur) : ∀ k, layNow now at0 lot k = now
  | 0 => rfl
  | k + 1 => by
    unfold layNow
    cases hx : lot[k]? with
    | none => exact h.laid k
    | some x =>
      dsimp only
      obtain ⟨x1, x2, x3⟩ := h.lok x (List.mem_of_getElem? hx)
      have hp := h.page x.no x2
      rw [x3] at hp
      have hln := h.len
      rw [h.laid k]
      have : imgB x 0 = secN now (at0 + 8 * x.no) 8 := hp.symm
      rw [this]
      exact wrNow_same h.s64 _ 8 (by omega) 8 (Nat.le_refl _)
/-- A new disk. -/
theorem PSt.new (n at0 pages : Nat) (h : at0 + 8 * pages + 80 ≤ n) : PSt (List.replicate n nought) at0 pages 0 [] (fun _ => none) := by
  have hg : ∀ j, j < n → (List.replicate n nought)[j]? = some (zeros 64) := fun j hj => by rw [List.getElem?_replicate, if_pos hj]; rfl
  have hs : ∀ m i, i + m ≤ n → secN (List.replicate n nought) i m = zeros (64 * m) := by
    intro m
    induction m with
    | zero => intro i _; rfl
    | succ m ih =>
      intro i hi
      rw [secN, ih i (by omega), List.getD_eq_getElem?_getD, hg _ (by omega)]
      show zeros (64 * m) ++ zeros 64 = _
      unfold zeros
      rw [List.replicate_append_replicate]; congr 1
  refine ⟨fun j s hj => ?_, by rw [List.length_replicate]; exact h, fun no hno => ?_, fun no x _ hx => (by cases hx), ?_, fun j hj => ⟨none, ?_, fun x hx => (by cases hx), fun x hx => (by simp at hx)⟩, by simp, fun x hx => (by simp at hx), fun _ => rfl, by omega⟩
  · have hl : j < n := by have := (List.getElem?_eq_some_iff.1 hj).1; rwa [List.length_replicate] at this
    rw [hg j hl] at hj
    injection hj with hj
    rw [← hj, zeros_length]
  · exact hs 8 _ (by omega)
  · rw [if_pos rfl]; exact hg _ (by omega)
  · exact hs 8 _ (by omega)
end Go.Proofs.YtilclfeaolhoeaaDoor
