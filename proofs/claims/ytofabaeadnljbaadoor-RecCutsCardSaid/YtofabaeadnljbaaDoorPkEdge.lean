/-
  An edge's bytes, and what EdgeOf says of bytes (plain; the points themselves are not told).
-/
import Derived.Test.YtofabaeadnljbaaDoorPkRead
namespace Go.Proofs.YtofabaeadnljbaaDoor
set_option linter.unusedSimpArgs false
set_option linter.unusedVariables false
open Go.RowKit

def w64 (x : Int) : Int := wrap64 x
theorem w64_range (x : Int) : -9223372036854775808 ≤ w64 x ∧ w64 x ≤ 9223372036854775807 := by
  unfold w64 wrap64; omega
theorem w64_id {x : Int} (h0 : -9223372036854775808 ≤ x) (h1 : x ≤ 9223372036854775807) : w64 x = x := by
  unfold w64 wrap64; omega
def sumOk (a b : Int) : Bool := decide (w64 (a + b) < a) == decide (b < 0)
theorem sumOk_zero (a : Int) (h0 : -9223372036854775808 ≤ a) (h1 : a ≤ 9223372036854775807) : sumOk a 0 = true := by
  unfold sumOk
  rw [Int.add_zero, w64_id h0 h1]
  simp
theorem sumOk_small (a b : Int) (h0 : -1000000000 ≤ a) (h1 : a ≤ 1000000000) (h2 : -1000000000 ≤ b) (h3 : b ≤ 1000000000) : sumOk a b = true ∧ w64 (a + b) = a + b := by
  have e : w64 (a + b) = a + b := w64_id (by omega) (by omega)
  refine ⟨?_, e⟩
  unfold sumOk
  rw [e, beq_iff_eq, decide_eq_decide]
  omega

/-- Whether the points are good, and the reader behind them. -/
def eLoop : Nat → Rd → Int → Int → Bool × Rd
  | 0, r, _, _ => (true, r)
  | k + 1, r, a, b => if sumOk a r.x = true ∧ sumOk b r.nx.x = true then eLoop k r.nx.nx (w64 (a + r.x)) (w64 (b + r.nx.x)) else (false, r.nx.nx)
def edgeErr (b : List UInt8) : Nat :=
  let r := (Rd.of b).nx.nx.nx.nx.nx
  if r.x < 0 ∨ 64 < r.x then 3
  else if (eLoop r.x.toNat r.nx 0 0).1 = false then 3 else (eLoop r.x.toNat r.nx 0 0).2.stop

/-- The differences of points. -/
def dls : Int → Int → List (Int × Int) → List Int
  | _, _, [] => []
  | a, b, p :: ps => w64 (p.1 - a) :: w64 (p.2 - b) :: dls p.1 p.2 ps
structure Ed where
  id : Int
  st : Int
  en : Int
  le : Int
  ri : Int
  line : List (Int × Int)
def Ed.l (e : Ed) : List Int := [e.id, e.st, e.en, e.le, e.ri, (e.line.length : Int)] ++ dls 0 0 e.line
def Ed.b (e : Ed) : List UInt8 := nums e.l

theorem Rd.bad {r : Rd} (h : r.e ≠ 0) : r.x = 0 ∧ r.nx = r := by
  unfold Rd.x Rd.nx
  rw [if_neg h, if_neg h]
  exact ⟨rfl, rfl⟩
/-- A number's bytes, cut short. -/
theorem varF_short : ∀ (x i acc k c : Nat) (pre : List UInt8), pre.length = i → x * 128 ^ i < 18446744073709551616 → i ≤ 9 → 10 ≤ i + k → c < (uvar x).length →
    varF (pre ++ (uvar x).take c) i acc k = (0, 0, 4) := by
  intro x
  induction x using Nat.strongRecOn with
  | _ x ih =>
    intro i acc k c pre hp hx hi hk hc
    obtain ⟨k, rfl⟩ : ∃ k', k = k' + 1 := ⟨k - 1, by omega⟩
    cases c with
    | zero =>
      rw [List.take_zero, List.append_nil, varF, List.getElem?_eq_none (by omega)]
    | succ c =>
      by_cases hs : x < 128
      · rw [uvar_small hs] at hc; simp at hc
      · have h9 : i ≠ 9 := by
          rintro rfl
          have : 128 ^ 9 = 9223372036854775808 := by decide
          rw [this] at hx
          omega
        have hg : (pre ++ (uvar x).take (c + 1))[i]? = some (UInt8.ofNat (x % 128 + 128)) := by
          rw [uvar_big (by omega), List.take_succ_cons, List.getElem?_append_right (by omega), hp]; simp
        rw [varF, hg]
        dsimp only
        rw [ofNat_toNat (by omega), if_neg (by rintro ⟨h, _⟩; exact h9 h), if_pos (by omega)]
        have hl : pre ++ (uvar x).take (c + 1) = (pre ++ [UInt8.ofNat (x % 128 + 128)]) ++ (uvar (x / 128)).take c := by
          rw [uvar_big (by omega), List.take_succ_cons]; simp
        have hpow : 128 ^ (i + 1) = 128 ^ i * 128 := Nat.pow_succ ..
        have hmul : x / 128 * 128 ^ (i + 1) = (x / 128 * 128) * 128 ^ i := by rw [hpow, Nat.mul_comm (128 ^ i) 128, Nat.mul_assoc]
        have hsum : x * 128 ^ i = (x / 128 * 128) * 128 ^ i + x % 128 * 128 ^ i := by rw [← Nat.add_mul]; congr 1; omega
        rw [hl]
        refine ih (x / 128) (by omega) (i + 1) _ k c _ (by simp [hp]) (by rw [hmul]; omega) (by omega) (by omega) ?_
        rw [uvar_big (by omega), List.length_cons] at hc
        omega
theorem intOfB_short (x : Int) (c : Nat) (h0 : -9223372036854775808 ≤ x) (h1 : x ≤ 9223372036854775807) (hc : c < (intB x).length) : intOfB ((intB x).take c) = (0, 0, 4) := by
  have key : ∀ v : Nat, v < 18446744073709551616 → c < (uvar v).length → intOfB ((uvar v).take c) = (0, 0, 4) := by
    intro v hv hc
    have h := varF_short v 0 0 10 c [] rfl (by simpa using hv) (by omega) (by omega) hc
    rw [List.nil_append] at h
    have h : varB ((uvar v).take c) = (0, 0, 4) := h
    unfold intOfB
    rw [h]; rfl
  unfold intB at hc ⊢
  split at hc
  · rename_i h
    rw [if_pos h]
    exact key _ (by omega) hc
  · rename_i h
    rw [if_neg h]
    exact key _ (by omega) hc
/-- A number of which the bytes are cut short, or not. -/
theorem Rd.short (x : Int) (rest : List UInt8) (c : Nat) (h0 : -9223372036854775808 ≤ x) (h1 : x ≤ 9223372036854775807) :
    ((Rd.mk ((intB x ++ rest).take c) 0).x = 0 ∧ (Rd.mk ((intB x ++ rest).take c) 0).nx.e = 4 ∧ c < (intB x).length) ∨
    ((Rd.mk ((intB x ++ rest).take c) 0).x = x ∧ (Rd.mk ((intB x ++ rest).take c) 0).nx = ⟨rest.take (c - (intB x).length), 0⟩ ∧ (intB x).length ≤ c) := by
  by_cases hc : c < (intB x).length
  · refine .inl ?_
    rw [List.take_append_of_le_length (by omega)]
    unfold Rd.x Rd.nx
    dsimp only
    rw [intOfB_short x c h0 h1 hc]
    exact ⟨rfl, rfl, hc⟩
  · refine .inr ?_
    rw [List.take_append, List.take_of_length_le (by omega)]
    have := Rd.read x (rest.take (c - (intB x).length)) h0 h1
    exact ⟨this.1, this.2, by omega⟩
def Num (x : Int) : Prop := -9223372036854775808 ≤ x ∧ x ≤ 9223372036854775807
/-- Some numbers' bytes, cut short: torn behind so many numbers at the latest; each number is told, or nought. -/
def Cut (l : List Int) (r : Rd) : Prop := r.e = 4 ∨ (r.e = 0 ∧ ∃ c, c < (nums l).length ∧ r.b = (nums l).take c)
theorem Cut.nil {r : Rd} (h : Cut [] r) : r.e = 4 := by
  rcases h with h | ⟨_, c, hc, _⟩
  · exact h
  · simp [nums] at hc
theorem Cut.next {x : Int} {l : List Int} {r : Rd} (h : Cut (x :: l) r) (hx : Num x) : Cut l r.nx ∧ (r.x = x ∨ (r.x = 0 ∧ r.nx.e = 4)) := by
  rcases h with h | ⟨he, c, hc, hb⟩
  · obtain ⟨h1, h2⟩ := Rd.bad (r := r) (by omega)
    rw [h2]
    exact ⟨.inl h, .inr ⟨h1, h⟩⟩
  · have hr : r = ⟨(intB x ++ nums l).take c, 0⟩ := by
      cases r; simp only at he hb; rw [he, hb]; rfl
    have hcl : c < (intB x).length + (nums l).length := by
      simp only [nums, List.length_append] at hc; exact hc
    rcases Rd.short x (nums l) c hx.1 hx.2 with ⟨h1, h2, _⟩ | ⟨h1, h2, h3⟩
    · rw [← hr] at h1 h2
      exact ⟨.inl h2, .inr ⟨h1, h2⟩⟩
    · rw [← hr] at h1 h2
      refine ⟨?_, .inl h1⟩
      rw [h2]
      exact .inr ⟨rfl, c - (intB x).length, by omega, rfl⟩

theorem eLoop_torn (k : Nat) (r : Rd) (a b : Int) (h : r.e = 4) (ha : Num a) (hb : Num b) : eLoop k r a b = (true, r) := by
  induction k with
  | zero => rfl
  | succ k ih =>
    obtain ⟨h1, h2⟩ := Rd.bad (r := r) (by omega)
    simp only [eLoop, h2, h1]
    rw [if_pos ⟨sumOk_zero a ha.1 ha.2, sumOk_zero b hb.1 hb.2⟩, Int.add_zero, Int.add_zero, w64_id ha.1 ha.2, w64_id hb.1 hb.2]
    exact ih
/-- Points that lie near. -/
def Near (ps : List (Int × Int)) : Prop := ∀ p ∈ ps, (0 ≤ p.1 ∧ p.1 ≤ 1000) ∧ (0 ≤ p.2 ∧ p.2 ≤ 1000)
theorem eLoop_cut : ∀ (ps : List (Int × Int)) (r : Rd) (a b : Int), Near ps → (0 ≤ a ∧ a ≤ 1000) → (0 ≤ b ∧ b ≤ 1000) → Cut (dls a b ps) r → (eLoop ps.length r a b).1 = true ∧ (eLoop ps.length r a b).2.e = 4
  | [], r, a, b, _, _, _, h => ⟨rfl, Cut.nil h⟩
  | p :: ps, r, a, b, hn, ha, hb, h => by
    have hp := hn p (List.mem_cons_self ..)
    have e1 : w64 (p.1 - a) = p.1 - a := w64_id (by omega) (by omega)
    have e2 : w64 (p.2 - b) = p.2 - b := w64_id (by omega) (by omega)
    simp only [dls, e1, e2] at h
    obtain ⟨c1, x1⟩ := h.next ⟨by omega, by omega⟩
    obtain ⟨c2, x2⟩ := c1.next ⟨by omega, by omega⟩
    have na : Num a := ⟨by omega, by omega⟩
    have nb : Num b := ⟨by omega, by omega⟩
    simp only [List.length_cons, eLoop]
    rcases x1 with x1 | ⟨x1, t1⟩
    · have s1 := sumOk_small a (p.1 - a) (by omega) (by omega) (by omega) (by omega)
      rw [x1]
      rcases x2 with x2 | ⟨x2, t2⟩
      · have s2 := sumOk_small b (p.2 - b) (by omega) (by omega) (by omega) (by omega)
        rw [x2, if_pos ⟨s1.1, s2.1⟩, s1.2, s2.2, show a + (p.1 - a) = p.1 from by omega, show b + (p.2 - b) = p.2 from by omega]
        exact eLoop_cut ps _ _ _ (fun q hq => hn q (List.mem_cons_of_mem _ hq)) hp.1 hp.2 c2
      · rw [x2, if_pos ⟨s1.1, sumOk_zero b nb.1 nb.2⟩, eLoop_torn _ _ _ _ t2 (w64_range _) (w64_range _)]
        exact ⟨rfl, t2⟩
    · obtain ⟨h1, h2⟩ := Rd.bad (r := r.nx) (by omega)
      rw [x1, h1, h2, if_pos ⟨sumOk_zero a na.1 na.2, sumOk_zero b nb.1 nb.2⟩, eLoop_torn _ _ _ _ t1 (w64_range _) (w64_range _)]
      exact ⟨rfl, t1⟩
theorem eLoop_full : ∀ (ps : List (Int × Int)) (rest : List UInt8) (a b : Int), Near ps → (0 ≤ a ∧ a ≤ 1000) → (0 ≤ b ∧ b ≤ 1000) → eLoop ps.length ⟨nums (dls a b ps) ++ rest, 0⟩ a b = (true, ⟨rest, 0⟩)
  | [], rest, a, b, _, _, _ => rfl
  | p :: ps, rest, a, b, hn, ha, hb => by
    have hp := hn p (List.mem_cons_self ..)
    have e1 : w64 (p.1 - a) = p.1 - a := w64_id (by omega) (by omega)
    have e2 : w64 (p.2 - b) = p.2 - b := w64_id (by omega) (by omega)
    have hb1 : nums (dls a b (p :: ps)) ++ rest = intB (p.1 - a) ++ (intB (p.2 - b) ++ (nums (dls p.1 p.2 ps) ++ rest)) := by
      simp only [dls, e1, e2, nums, List.append_assoc]
    obtain ⟨r1, r2⟩ := Rd.read (p.1 - a) (intB (p.2 - b) ++ (nums (dls p.1 p.2 ps) ++ rest)) (by omega) (by omega)
    obtain ⟨r3, r4⟩ := Rd.read (p.2 - b) (nums (dls p.1 p.2 ps) ++ rest) (by omega) (by omega)
    have s1 := sumOk_small a (p.1 - a) (by omega) (by omega) (by omega) (by omega)
    have s2 := sumOk_small b (p.2 - b) (by omega) (by omega) (by omega) (by omega)
    simp only [List.length_cons, eLoop]
    rw [hb1, r2, r4, r1, r3, if_pos ⟨s1.1, s2.1⟩, s1.2, s2.2, show a + (p.1 - a) = p.1 from by omega, show b + (p.2 - b) = p.2 from by omega]
    exact eLoop_full ps rest _ _ (fun q hq => hn q (List.mem_cons_of_mem _ hq)) hp.1 hp.2

structure Ed.Ok (e : Ed) : Prop where
  id : Num e.id
  st : Num e.st
  en : Num e.en
  le : Num e.le
  ri : Num e.ri
  near : Near e.line
  len : e.line.length ≤ 64
/-- An edge that is cut short is torn. -/
theorem edgeErr_cut (e : Ed) (h : e.Ok) (c : Nat) (hc : c < e.b.length) : edgeErr (e.b.take c) = 4 := by
  have c0 : Cut (e.id :: e.st :: e.en :: e.le :: e.ri :: (e.line.length : Int) :: dls 0 0 e.line) (Rd.of (e.b.take c)) := .inr ⟨rfl, c, hc, rfl⟩
  obtain ⟨c1, _⟩ := c0.next h.id
  obtain ⟨c2, _⟩ := c1.next h.st
  obtain ⟨c3, _⟩ := c2.next h.en
  obtain ⟨c4, _⟩ := c3.next h.le
  obtain ⟨c5, _⟩ := c4.next h.ri
  have hl := h.len
  obtain ⟨c6, x6⟩ := c5.next ⟨by omega, by omega⟩
  have key : ∀ q : Bool × Rd, q.1 = true → q.2.e = 4 → (if q.1 = false then 3 else q.2.stop) = 4 := by
    intro q h1 h2
    rw [h1, if_neg (by decide)]
    unfold Rd.stop
    rw [if_neg (by omega), h2]
  unfold edgeErr
  dsimp only
  rcases x6 with x6 | ⟨x6, t6⟩
  · rw [x6, if_neg (by omega), Int.toNat_natCast]
    obtain ⟨k1, k2⟩ := eLoop_cut e.line _ 0 0 h.near ⟨by omega, by omega⟩ ⟨by omega, by omega⟩ c6
    exact key _ k1 k2
  · rw [x6, if_neg (by omega)]
    exact key (eLoop 0 _ 0 0) rfl t6
/-- .. and one with a byte behind it is none. -/
theorem edgeErr_more (e : Ed) (h : e.Ok) (m : UInt8) : edgeErr (e.b ++ [m]) = 3 := by
  have hl := h.len
  have hb : e.b ++ [m] = intB e.id ++ (intB e.st ++ (intB e.en ++ (intB e.le ++ (intB e.ri ++ (intB (e.line.length : Int) ++ (nums (dls 0 0 e.line) ++ [m])))))) := by
    simp only [Ed.b, Ed.l, nums, List.cons_append, List.nil_append, List.append_assoc]
  obtain ⟨_, a2⟩ := Rd.read e.id (intB e.st ++ (intB e.en ++ (intB e.le ++ (intB e.ri ++ (intB (e.line.length : Int) ++ (nums (dls 0 0 e.line) ++ [m])))))) h.id.1 h.id.2
  obtain ⟨_, b2⟩ := Rd.read e.st (intB e.en ++ (intB e.le ++ (intB e.ri ++ (intB (e.line.length : Int) ++ (nums (dls 0 0 e.line) ++ [m]))))) h.st.1 h.st.2
  obtain ⟨_, c2⟩ := Rd.read e.en (intB e.le ++ (intB e.ri ++ (intB (e.line.length : Int) ++ (nums (dls 0 0 e.line) ++ [m])))) h.en.1 h.en.2
  obtain ⟨_, d2⟩ := Rd.read e.le (intB e.ri ++ (intB (e.line.length : Int) ++ (nums (dls 0 0 e.line) ++ [m]))) h.le.1 h.le.2
  obtain ⟨_, f2⟩ := Rd.read e.ri (intB (e.line.length : Int) ++ (nums (dls 0 0 e.line) ++ [m])) h.ri.1 h.ri.2
  obtain ⟨g1, g2⟩ := Rd.read (e.line.length : Int) (nums (dls 0 0 e.line) ++ [m]) (by omega) (by omega)
  unfold edgeErr Rd.of
  dsimp only
  rw [hb, a2, b2, c2, d2, f2, g1, g2, if_neg (by omega), Int.toNat_natCast, eLoop_full e.line [m] 0 0 h.near ⟨by omega, by omega⟩ ⟨by omega, by omega⟩]
  rfl
theorem nodeOf_cut (n : Nd) (h : n.Ok) (c : Nat) (hc : c < n.b.length) : (nodeOf (n.b.take c)).2 = 4 := by
  have c0 : Cut (n.id :: n.x :: n.y :: n.f :: []) (Rd.of (n.b.take c)) := .inr ⟨rfl, c, hc, rfl⟩
  obtain ⟨c1, _⟩ := c0.next ⟨h.i0, h.i1⟩
  obtain ⟨c2, _⟩ := c1.next ⟨h.x0, h.x1⟩
  obtain ⟨c3, _⟩ := c2.next ⟨h.y0, h.y1⟩
  obtain ⟨c4, _⟩ := c3.next ⟨h.f0, h.f1⟩
  have he := c4.nil
  have hs : (Rd.of (n.b.take c)).nx.nx.nx.nx.stop = 4 := by
    unfold Rd.stop
    rw [if_neg (by omega), he]
  unfold nodeOf
  dsimp only
  rw [hs, if_neg (by omega)]
theorem nodeOf_more (n : Nd) (h : n.Ok) (m : UInt8) : (nodeOf (n.b ++ [m])).2 = 3 := by
  have hb : n.b ++ [m] = intB n.id ++ (intB n.x ++ (intB n.y ++ (intB n.f ++ [m]))) := by
    simp only [Nd.b, Nd.l, nums, List.append_assoc, List.nil_append]
  obtain ⟨_, a2⟩ := Rd.read n.id (intB n.x ++ (intB n.y ++ (intB n.f ++ [m]))) h.i0 h.i1
  obtain ⟨_, b2⟩ := Rd.read n.x (intB n.y ++ (intB n.f ++ [m])) h.x0 h.x1
  obtain ⟨_, c2⟩ := Rd.read n.y (intB n.f ++ [m]) h.y0 h.y1
  obtain ⟨_, d2⟩ := Rd.read n.f [m] h.f0 h.f1
  unfold nodeOf Rd.of
  dsimp only
  rw [hb, a2, b2, c2, d2]
  rfl
theorem dls_length : ∀ (ps : List (Int × Int)) (a b : Int), (dls a b ps).length = 2 * ps.length
  | [], _, _ => rfl
  | p :: ps, a, b => by simp only [dls, List.length_cons, dls_length ps]; omega
theorem dls_num : ∀ (ps : List (Int × Int)) (a b : Int), ∀ x ∈ dls a b ps, Num x
  | [], _, _, x, hx => by simp [dls] at hx
  | p :: ps, a, b, x, hx => by
    simp only [dls, List.mem_cons] at hx
    rcases hx with rfl | rfl | hx
    · exact w64_range _
    · exact w64_range _
    · exact dls_num ps _ _ x hx
end Go.Proofs.YtofabaeadnljbaaDoor
