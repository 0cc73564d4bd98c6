/-
  What Open makes of sectors on which a log's bytes lie (plain).
-/
import Derived.Test.YtieiopeblleheaaWalCode
namespace Go.Proofs.Ytieiopeblleheaa
set_option linter.unusedSimpArgs false
set_option linter.unusedVariables false
open Go.RowKit

/-- The bytes of records, from a number on. -/
def frames (x : Nat) : List (List UInt8) → List UInt8
  | [] => []
  | r :: rs => fraB x r ++ frames (x + 1) rs
theorem frames_append (a b : List (List UInt8)) : ∀ x, frames x (a ++ b) = frames x a ++ frames (x + a.length) b := by
  induction a with
  | nil => intro x; rfl
  | cons r a ih =>
    intro x
    simp only [List.cons_append, frames, ih, List.append_assoc, List.length_cons]
    rw [show x + 1 + a.length = x + (a.length + 1) from by omega]
def sizes (rs : List (List UInt8)) : Nat := (rs.map fun r => 16 + r.length).sum
theorem frames_length (rs : List (List UInt8)) : ∀ x, (frames x rs).length = sizes rs := by
  induction rs with
  | nil => intro x; rfl
  | cons r rs ih => intro x; simp only [frames, List.length_append, fraB_length, ih, sizes, List.map_cons, List.sum_cons]
theorem sizes_append (a b : List (List UInt8)) : sizes (a ++ b) = sizes a + sizes b := by simp [sizes]
theorem sizes_ge (rs : List (List UInt8)) : 16 * rs.length ≤ sizes rs := by
  induction rs with
  | nil => simp [sizes]
  | cons r rs ih => simp only [sizes, List.map_cons, List.sum_cons, List.length_cons] at ih ⊢; omega

def LS.adds (L : LS) : List (List UInt8) → LS
  | [] => L
  | r :: rs => LS.adds (L.add r) rs
theorem take_frames : ∀ (rs : List (List UInt8)) (L : LS) (k : Nat), rs.length ≤ k → (∀ r ∈ rs, r.length ≤ 2000) → L.next + rs.length < 18446744073709551616 → L.take k (frames L.next rs) = L.adds rs
  | [], L, k, _, _, _ => LS.take_no (fun h => by have := h.1; simp [frames] at this)
  | r :: rs, L, k, hk, hr, hn => by
    obtain ⟨k, rfl⟩ : ∃ k', k = k' + 1 := ⟨k - 1, by simp at hk; omega⟩
    have h1 : r.length ≤ 2000 := hr r (List.mem_cons_self ..)
    simp only [List.length_cons] at hn hk
    rw [show frames L.next (r :: rs) = fraB L.next r ++ frames (L.next + 1) rs from rfl]
    simp only [LS.take, LS.adds]
    rw [if_pos (fraB_ok _ _ h1 (by omega) _), fraB_rest _ _ (by omega), fraB_rec _ _ (by omega)]
    exact take_frames rs (L.add r) k (by omega) (fun x hx => hr x (List.mem_cons_of_mem _ hx)) (by show L.next + 1 + rs.length < _; omega)

/-- Sectors from number no0 on bear bs, and nothing hangs on behind them. -/
structure Sects (S : DS) (L : LS) (no0 : Nat) (bs : List UInt8) (m : Nat) (lf : Nat → Nat) : Prop where
  sec : ∀ i, i < m → S.now.getD (L.place (no0 + i)) [] = sectB (no0 + i) (lf i) ((bs.drop (48 * i)).take 48)
  long : bs.length ≤ 48 * m
  short : 0 < m → 48 * m < bs.length + 48
  mono : ∀ i j, i ≤ j → j < m → lf i ≤ lf j
  lives : ∀ i, i < m → lf i < 281474976710656
  nos : no0 + m < 1099511627776
  fit : m ≤ L.n - 2
  stop : bs.length = 48 * m → m < L.n - 2 → ¬ (pGood (S.now.getD (L.place (no0 + m)) []) = true ∧ pNo (S.now.getD (L.place (no0 + m)) []) = no0 + m)

theorem Sects.str {S : DS} {L : LS} {no0 : Nat} {bs : List UInt8} {m : Nat} {lf : Nat → Nat} (h : Sects S L no0 bs m lf) (hf : L.fin / 48 = no0) :
    ∀ k, k ≤ L.n - 2 → (48 * k ≤ bs.length ∧ (L.str S k).op = true ∧ (L.str S k).out = bs.take (48 * k) ∧ ∀ i, k ≤ i → i < m → (L.str S k).life ≤ lf i) ∨ ((L.str S k).op = false ∧ (L.str S k).out = bs)
  | 0, _ => .inl ⟨by omega, rfl, by rw [Nat.mul_zero, List.take_zero]; rfl, fun i _ _ => Nat.zero_le _⟩
  | k + 1, hk => by
    have ih := Sects.str h hf k (by omega)
    simp only [LS.str]
    rw [hf]
    rcases ih with ⟨h1, h2, h3, h4⟩ | ⟨h1, h2⟩
    · by_cases hm : k < m
      · have hs := h.sec k hm
        have hsh := h.short (by omega)
        have hcl : ((bs.drop (48 * k)).take 48).length = min 48 (bs.length - 48 * k) := by rw [List.length_take, List.length_drop]
        have hc48 : ((bs.drop (48 * k)).take 48).length ≤ 48 := by omega
        have hnos := h.nos
        have hg := sectB_good (no0 + k) (lf k) _ hc48 (by omega) (by omega) (h.lives k hm)
        have hno := sectB_no (no0 + k) (lf k) _ hc48 (by omega)
        have hli := sectB_life (no0 + k) (lf k) _ hc48 (h.lives k hm)
        have hn := sectB_n (no0 + k) (lf k) _ hc48
        have ho := sectB_own (no0 + k) (lf k) _ hc48
        rw [hs]
        have hstep : (L.str S k).step (no0 + k) (sectB (no0 + k) (lf k) ((bs.drop (48 * k)).take 48)) = ⟨(L.str S k).out ++ ((bs.drop (48 * k)).take 48), lf k, max (L.str S k).ml (lf k), (((((bs.drop (48 * k)).take 48).length : Nat) : Int) == 48)⟩ := by
          unfold St.step
          rw [if_pos ⟨h2, hg, hno, by rw [hli]; exact h4 k (Nat.le_refl _) hm⟩, ho, hli, hn]
        rw [hstep]
        have hout : (L.str S k).out ++ ((bs.drop (48 * k)).take 48) = bs.take (48 * (k + 1)) := by
          rw [h3, show 48 * (k + 1) = 48 * k + 48 from by omega, List.take_add]
        by_cases hfull : 48 * (k + 1) ≤ bs.length
        · refine .inl ⟨hfull, ?_, hout, fun i hi hi2 => h.mono k i (by omega) hi2⟩
          show (_ == _) = true
          rw [beq_iff_eq]; omega
        · refine .inr ⟨?_, ?_⟩
          · show (_ == _) = false
            rw [beq_eq_false_iff_ne]; omega
          · show (L.str S k).out ++ _ = bs
            rw [hout, List.take_of_length_le (by omega)]
      · have hl := h.long
        have e1 : k = m := by
          have : 48 * k ≤ 48 * m := by omega
          omega
        subst e1
        have hst := h.stop (by omega) (by omega)
        refine .inr ⟨?_, ?_⟩
        · unfold St.step
          rw [if_neg (fun hc => hst ⟨hc.2.1, hc.2.2.1⟩)]
        · unfold St.step
          rw [if_neg (fun hc => hst ⟨hc.2.1, hc.2.2.1⟩)]
          show (L.str S k).out = bs
          rw [h3, List.take_of_length_le (by omega)]
    · unfold St.step
      rw [if_neg (fun hc => by rw [h1] at hc; cases hc.1)]
      exact .inr ⟨rfl, h2⟩
theorem Sects.bytes {S : DS} {L : LS} {no0 : Nat} {bs : List UInt8} {m : Nat} {lf : Nat → Nat} (h : Sects S L no0 bs m lf) (hf : L.fin / 48 = no0) : L.bytes S = bs.drop (L.fin % 48) := by
  unfold LS.bytes
  rcases h.str hf (L.n - 2) (Nat.le_refl _) with ⟨h1, _, h3, _⟩ | ⟨_, h2⟩
  · have := h.long
    have := h.fit
    rw [h3, List.take_of_length_le (by omega)]
  · rw [h2]
end Go.Proofs.Ytieiopeblleheaa
