/-
  TxnW4, in one text.
-/
import Derived.Test.YtfapklpcgcgahaaGreatDoorMg35
import Derived.Test.YtfapklpcgcgahaaGreatDoorMg03
/-
  What may turn of a world, and what a transaction's pages are long.
-/
namespace Go.Proofs.YtfapklpcgcgahaaGreatDoor
set_option linter.unusedSimpArgs false
set_option linter.unusedVariables false
open Go.RowKit Go.Maps

section
variable {w0 w w' : World} {RS RO U : Nat → Prop} {g s M K : Nat} {T : TS} {log frames : Int} {nv lv : Value} {N : Pgs} {d logn : Nat} {C B : Pgs} {svs : List (Nat × Nat × Pgs)} {n last undone : Nat} {q : Int}
theorem TB.len (hb : TB T d logn C B svs n last undone q) (h : TxIn RS RO U w s 6 M K T) (k : Nat) (hk : k < 6) : (C k).length = 480 := by
  rw [← hb.pages]; exact (h.pool.vok k hk).1.d
theorem WasAt.get {base i : Nat} {A : Nat → Prop} {vw : Value} {P : Nat → Pgs} (h : WasAt w base A vw i P) (k : Nat) (hk : k < i) : ∃ gv cv gk ck, vw = .slice (some ⟨gv, 0, none⟩) i cv ∧ i ≤ cv ∧ w.cell? ⟨gv, k, none⟩ = some (.slice (some ⟨gk, 0, none⟩) 6 ck) ∧ Row6 w base (.slice (some ⟨gk, 0, none⟩) 6 ck) (P k) ∧ ¬ A gk := by
  obtain ⟨⟨ss, h1, h2⟩, h3⟩ := h
  obtain ⟨gk, ck, e1, e2, e3⟩ := h2 k hk
  have h1' := h1
  rcases h1'.2 with ⟨_, e⟩ | ⟨gv, cv, cur, e, _, _, h5, _⟩
  · omega
  · subst e
    exact ⟨gv, cv, gk, ck, rfl, h5, by rw [h1.cellAt k (by omega)]; exact e1, e2, e3⟩
end
/-- All of a world's blocks that may turn. -/
def AllN (RS RO U : Nat → Prop) (nv : Value) : Nat → Prop := fun b => All3 RS RO U b ∨ nv.ownBlock = some b
theorem Subs.alln {w w' : World} {RS RO U RS' RO' U' : Nat → Prop} {nv : Value} (hs : Subs RS RS' RO RO' U U' w w') : ∀ b, AllN RS' RO' U' nv b → AllN RS RO U nv b ∨ w.heap.size ≤ b := fun b hb => by
  rcases hb with (hb | hb | hb) | hb
  · exact (hs.rs b hb).imp (fun e => .inl (.inl e)) id
  · exact (hs.ro b hb).imp (fun e => .inl (.inr (.inl e))) id
  · exact (hs.u b hb).imp (fun e => .inl (.inr (.inr e))) id
  · exact .inl (.inr hb)
end Go.Proofs.YtfapklpcgcgahaaGreatDoor
