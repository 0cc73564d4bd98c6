/-
  Numbers one behind the other, a node's bytes (plain).
-/
import Derived.Test.YtofabaeadnljbaaDoorPk0
namespace Go.Proofs.YtofabaeadnljbaaDoor
set_option linter.unusedSimpArgs false
set_option linter.unusedVariables false
open Go.RowKit

/-- Bytes that are read number by number, and the first error. -/
structure Rd where
  b : List UInt8
  e : Nat
def Rd.x (r : Rd) : Int := if r.e = 0 then (intOfB r.b).1 else 0
def Rd.nx (r : Rd) : Rd := if r.e = 0 then ⟨r.b.drop (intOfB r.b).2.1, (intOfB r.b).2.2⟩ else r
def Rd.stop (r : Rd) : Nat := if r.e = 0 ∧ 0 < r.b.length then 3 else r.e
theorem intOfB_spec (b : List UInt8) : (intOfB b).2.1 ≤ b.length ∧ (intOfB b).2.2 ≤ 5 ∧ -9223372036854775808 ≤ (intOfB b).1 ∧ (intOfB b).1 ≤ 9223372036854775807 ∧ ((intOfB b).2.2 ≠ 0 → (intOfB b).1 = 0 ∧ (intOfB b).2.1 = 0) := by
  obtain ⟨h1, h2, h3, h4⟩ := varB_spec b
  unfold intOfB
  split
  · refine ⟨h2, by simp, ?_, ?_, fun h => absurd rfl h⟩
    · show _ ≤ intV _
      unfold intV; split <;> omega
    · show intV _ ≤ _
      unfold intV; split <;> omega
  · exact ⟨Nat.zero_le _, h3, by simp, by simp, fun _ => ⟨rfl, rfl⟩⟩
theorem Rd.x_range (r : Rd) : -9223372036854775808 ≤ r.x ∧ r.x ≤ 9223372036854775807 := by
  have := intOfB_spec r.b
  unfold Rd.x
  split
  · exact ⟨this.2.2.1, this.2.2.2.1⟩
  · exact ⟨by omega, by omega⟩
theorem Rd.nx_e (r : Rd) (h : r.e ≤ 5) : r.nx.e ≤ 5 := by
  unfold Rd.nx
  split
  · exact (intOfB_spec r.b).2.1
  · exact h
theorem Rd.nx_len (r : Rd) : r.nx.b.length ≤ r.b.length := by
  unfold Rd.nx
  split
  · show (r.b.drop _).length ≤ _
    rw [List.length_drop]; omega
  · exact Nat.le_refl _
theorem Rd.stop_le (r : Rd) (h : r.e ≤ 5) : r.stop ≤ 5 := by
  unfold Rd.stop
  split <;> omega
/-- A number that was written is read. -/
theorem Rd.read (x : Int) (rest : List UInt8) (h0 : -9223372036854775808 ≤ x) (h1 : x ≤ 9223372036854775807) : (Rd.mk (intB x ++ rest) 0).x = x ∧ (Rd.mk (intB x ++ rest) 0).nx = ⟨rest, 0⟩ := by
  have h := intOfB_intB x rest h0 h1
  unfold Rd.x Rd.nx
  dsimp only
  rw [h]
  exact ⟨rfl, by rw [if_pos rfl, List.drop_left]⟩

structure Nd where
  id : Int
  x : Int
  y : Int
  f : Int
structure Nd.Ok (n : Nd) : Prop where
  i0 : -9223372036854775808 ≤ n.id
  i1 : n.id ≤ 9223372036854775807
  x0 : -9223372036854775808 ≤ n.x
  x1 : n.x ≤ 9223372036854775807
  y0 : -9223372036854775808 ≤ n.y
  y1 : n.y ≤ 9223372036854775807
  f0 : -9223372036854775808 ≤ n.f
  f1 : n.f ≤ 9223372036854775807
def Nd.v (n : Nd) : Value := .agg #[.int .i64 n.id, .int .i64 n.x, .int .i64 n.y, .int .i64 n.f]
def Nd.zero : Nd := ⟨0, 0, 0, 0⟩
def nums : List Int → List UInt8
  | [] => []
  | x :: l => intB x ++ nums l
theorem nums_append (a b : List Int) : nums (a ++ b) = nums a ++ nums b := by
  induction a with
  | nil => rfl
  | cons x a ih => simp [nums, ih]
theorem nums_length (l : List Int) (h : ∀ x ∈ l, -9223372036854775808 ≤ x ∧ x ≤ 9223372036854775807) : (nums l).length ≤ 10 * l.length ∧ l.length ≤ (nums l).length := by
  induction l with
  | nil => simp [nums]
  | cons x l ih =>
    have h1 := intB_length x (h x (List.mem_cons_self ..)).1 (h x (List.mem_cons_self ..)).2
    have h2 := ih (fun y hy => h y (List.mem_cons_of_mem _ hy))
    simp only [nums, List.length_append, List.length_cons]
    omega
def Nd.l (n : Nd) : List Int := [n.id, n.x, n.y, n.f]
def Nd.b (n : Nd) : List UInt8 := nums n.l
def Rd.of (b : List UInt8) : Rd := ⟨b, 0⟩
def nodeOf (b : List UInt8) : Nd × Nat :=
  let r := Rd.of b
  if r.nx.nx.nx.nx.stop = 0 then (⟨r.x, r.nx.x, r.nx.nx.x, r.nx.nx.nx.x⟩, 0) else (Nd.zero, r.nx.nx.nx.nx.stop)
theorem nodeOf_b (n : Nd) (h : n.Ok) : nodeOf n.b = (n, 0) := by
  have e : n.b = intB n.id ++ (intB n.x ++ (intB n.y ++ (intB n.f ++ []))) := rfl
  obtain ⟨a1, a2⟩ := Rd.read n.id (intB n.x ++ (intB n.y ++ (intB n.f ++ []))) h.i0 h.i1
  obtain ⟨b1, b2⟩ := Rd.read n.x (intB n.y ++ (intB n.f ++ [])) h.x0 h.x1
  obtain ⟨c1, c2⟩ := Rd.read n.y (intB n.f ++ []) h.y0 h.y1
  obtain ⟨d1, d2⟩ := Rd.read n.f [] h.f0 h.f1
  unfold nodeOf Rd.of
  dsimp only
  rw [e, a2, b2, c2, d2, a1, b1, c1, d1]
  rfl
end Go.Proofs.YtofabaeadnljbaaDoor
