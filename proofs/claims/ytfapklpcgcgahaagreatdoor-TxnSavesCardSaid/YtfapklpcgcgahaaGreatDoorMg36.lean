/-
  TxnW3, TxnW4, in one text.
-/
import Derived.Test.YtfapklpcgcgahaaGreatDoorMg35
import Derived.Laws.Strings3
import Derived.Test.YtfapklpcgcgahaaGreatDoorMg03
/-
  The texts that a statement notes: a page's text cut and put together, a row of texts copied.
-/
namespace Go.Proofs.YtfapklpcgcgahaaGreatDoor
set_option linter.unusedSimpArgs false
set_option linter.unusedVariables false
open Go.RowKit Go.Maps

def tB (l : List UInt8) : ByteArray := ⟨l.toArray⟩
theorem tS_eq (l : List UInt8) : tS l = .string (tB l) := rfl
theorem tB_size (l : List UInt8) : (tB l).size = l.length := by show l.toArray.size = _; simp
theorem tB_take (l : List UInt8) (k : Nat) (hk : k ≤ l.length) : (tB l).extract 0 k = tB (l.take k) := by
  apply ByteArray.ext
  apply Array.toList_inj.1
  rw [Lib.extract_data]
  simp [tB]
theorem tB_drop (l : List UInt8) (k : Nat) : (tB l).extract k l.length = tB (l.drop k) := by
  apply ByteArray.ext
  apply Array.toList_inj.1
  rw [Lib.extract_data]
  simp only [tB]
  rw [List.take_of_length_le (by rw [List.length_drop]; omega)]
theorem tB_append (a b : List UInt8) : tB a ++ tB b = tB (a ++ b) := by
  unfold tB
  apply ByteArray.ext
  simp
theorem tB_lay (c : List UInt8) (at_ : Nat) (b : List UInt8) : tB (c.take at_) ++ tB b ++ tB (c.drop (at_ + b.length)) = tB (layB c at_ b) := by
  rw [tB_append, tB_append]; rfl
def setP (N : Pgs) (i : Nat) (l : List UInt8) : Pgs := fun k => if k = i then l else N k
theorem setP_lay (C : Pgs) (i at_ : Nat) (b : List UInt8) : setP C i (layB (C i) at_ b) = layP C i at_ b := rfl
theorem row6_set (N : Pgs) (i : Nat) (l : List UInt8) : ((List.range 6).map fun k => tS (setP N i l k)) = ((List.range 6).map fun k => tS (N k)).set i (tS l) := by
  refine List.ext_getElem? (fun j => ?_)
  rw [List.getElem?_set, List.getElem?_map, List.getElem?_map, List.length_map, List.length_range]
  by_cases hj : j < 6
  · rw [List.getElem?_range hj]
    by_cases e : i = j
    · subst e
      rw [if_pos rfl, if_pos hj]
      simp [setP]
    · rw [if_neg e]
      have : ¬ j = i := fun h => e h.symm
      simp [setP, this]
  · rw [List.getElem?_eq_none (by rw [List.length_range]; omega)]
    split
    · rename_i e
      rw [if_neg (by omega)]; rfl
    · rfl
section
variable {w0 w w' : World} {RS RO U : Nat → Prop} {g s M K : Nat} {T : TS} {log frames : Int} {nv lv : Value} {N : Pgs}
theorem Row6.set_ {base gn cn : Nat} (h : Row6 w base (.slice (some ⟨gn, 0, none⟩) 6 cn) N) (i : Nat) (l : List UInt8) (hi : i < 6) : Row6 (w.setCell ⟨gn, i, none⟩ (tS l)) base (.slice (some ⟨gn, 0, none⟩) 6 cn) (setP N i l) := by
  unfold Row6 at h ⊢
  obtain ⟨hl, h⟩ := h
  refine ⟨by simp, ?_⟩
  rcases h with ⟨e, _⟩ | ⟨g, cap, cur, e, h1, h2, h3, h4, h5, h6⟩
  · cases e
  · injection e with e1 e2 e3
    injection e1 with e1
    injection e1 with e1
    subst e1 e3
    have hb : Blk w gn 9 cur := h2
    have hs := hb.set_ i (tS l)
    refine .inr ⟨gn, cn, cur.setIfInBounds i (tS l), rfl, h1, hs, h3, h4, by simpa using h5, ?_⟩
    rw [row6_set, ← h6, Array.toList_setIfInBounds, List.take_set]
theorem TW.setNow {gn cn : Nat} (h : TW w0 w RS RO U g s M K T log frames (.slice (some ⟨gn, 0, none⟩) 6 cn) lv N) (i : Nat) (l : List UInt8) (hi : i < 6) :
    TW w0 (w.setCell ⟨gn, i, none⟩ (tS l)) RS RO U g s M K T log frames (.slice (some ⟨gn, 0, none⟩) 6 cn) lv (setP N i l) := by
  have hf : Fr (fun b => b = gn) w (w.setCell ⟨gn, i, none⟩ (tS l)) := (Fr.refl (fun b => b = gn) w).setCell (p := ⟨gn, i, none⟩) (.inr rfl) _
  have hng : ¬ All3 RS RO U gn := h.nvb gn rfl
  obtain ⟨cur, hcur⟩ := own_blk (show w.ownsRow _ 9 1 (.slice (some ⟨gn, 0, none⟩) 6 cn) 6 _ from h.now) (g := gn) rfl
  have hne : g ≠ gn := Blk.ne_ (t := 38) (t' := 9) h.wld hcur (by decide)
  have hlo := ((show w.ownsRow _ 9 1 (.slice (some ⟨gn, 0, none⟩) 6 cn) 6 _ from h.now).lt gn rfl).1
  exact ⟨h.wld.fr hf hne, h.tx.fr hf (fun b hb e => hng (e ▸ .inl hb)) (fun b hb e => hng (e ▸ .inr (.inl hb))) (fun b hb e => hng (e ▸ .inr (.inr hb))), Row6.set_ h.now i l hi, h.nvb, h.hi, h.ng, h.gg,
    h.fr.step hf (fun j hj e => by have e : j = gn := e; omega)⟩
/-- The Now row as memory has it. -/
theorem TW.form (h : TW w0 w RS RO U g s M K T log frames nv lv N) : ∃ gn cn, nv = .slice (some ⟨gn, 0, none⟩) 6 cn ∧ 6 ≤ cn ∧ gn < w.heap.size := by
  rcases (show w.ownsRow w0.heap.size 9 1 nv 6 _ from h.now).2 with ⟨_, e⟩ | ⟨gn, cn, cur, e, _, hh, h5, _⟩
  · omega
  · exact ⟨gn, cn, e, h5, Blk.lt hh⟩
/-- Rows of pages' texts, one behind the other, that nothing of A touches. -/
structure WasAt (w : World) (base : Nat) (A : Nat → Prop) (vw : Value) (i : Nat) (P : Nat → Pgs) : Prop where
  row : ∃ ss : List Value, w.ownsRow base 34 1 vw i ss ∧ ∀ k, k < i → ∃ gk ck, ss[k]? = some (.slice (some ⟨gk, 0, none⟩) 6 ck) ∧ Row6 w base (.slice (some ⟨gk, 0, none⟩) 6 ck) (P k) ∧ ¬ A gk
  ap : ∀ b, vw.ownBlock = some b → ¬ A b
theorem WasAt.fr {base i : Nat} {A F : Nat → Prop} {vw : Value} {P : Nat → Pgs} (h : WasAt w base A vw i P) (hf : Fr F w w') (hF : ∀ b, F b → A b) : WasAt w' base A vw i P := by
  obtain ⟨⟨ss, h1, h2⟩, h3⟩ := h
  refine ⟨⟨ss, own_fr h1 hf (fun b hb e => h3 b hb (hF b e)), fun k hk => ?_⟩, h3⟩
  obtain ⟨gk, ck, e1, e2, e3⟩ := h2 k hk
  exact ⟨gk, ck, e1, own_fr e2 hf (fun b hb e => by
    have : gk = b := by simpa [Value.ownBlock] using hb
    subst this
    exact e3 (hF _ e)), e3⟩
theorem WasAt.grow {base i : Nat} {A A' : Nat → Prop} {vw : Value} {P : Nat → Pgs} (h : WasAt w base A vw i P) (hA : ∀ b, A' b → A b ∨ w.heap.size ≤ b) : WasAt w base A' vw i P := by
  obtain ⟨⟨ss, h1, h2⟩, h3⟩ := h
  refine ⟨⟨ss, h1, fun k hk => ?_⟩, fun b hb e => ?_⟩
  · obtain ⟨gk, ck, e1, e2, e3⟩ := h2 k hk
    refine ⟨gk, ck, e1, e2, fun e => ?_⟩
    rcases hA gk e with e | e
    · exact e3 e
    · have := own_lt e2 (g := gk) rfl; omega
  · rcases hA b e with e | e
    · exact h3 b hb e
    · have := own_lt h1 hb; omega
theorem WasAt.step {base i : Nat} {A A' F : Nat → Prop} {vw : Value} {P : Nat → Pgs} (h : WasAt w base A vw i P) (hf : Fr F w w') (hF : ∀ b, F b → A b) (hA : ∀ b, A' b → A b ∨ w.heap.size ≤ b) : WasAt w' base A' vw i P := by
  have h1 := h.grow hA
  have h2 := h.fr hf hF
  obtain ⟨⟨ss, a1, a2⟩, a3⟩ := h1
  obtain ⟨⟨ss', b1, b2⟩, b3⟩ := h2
  obtain ⟨⟨ss0, c1, c2⟩, c3⟩ := h
  refine ⟨⟨ss0, own_fr c1 hf (fun b hb e => c3 b hb (hF b e)), fun k hk => ?_⟩, a3⟩
  obtain ⟨gk, ck, e1, e2, e3⟩ := c2 k hk
  refine ⟨gk, ck, e1, own_fr e2 hf (fun b hb e => by
    have : gk = b := by simpa [Value.ownBlock] using hb
    subst this
    exact e3 (hF _ e)), fun e => ?_⟩
  rcases hA gk e with e | e
  · exact e3 e
  · have := own_lt e2 (g := gk) rfl; omega
theorem WasAt.push {w1 w2 : World} {base i : Nat} {A : Nat → Prop} {vw v2 : Value} {P : Nat → Pgs} {ss : List Value} {gk ck : Nat} (h1 : w1.ownsRow base 34 1 vw i ss)
    (h2 : ∀ k, k < i → ∃ gk ck, ss[k]? = some (.slice (some ⟨gk, 0, none⟩) 6 ck) ∧ Row6 w1 base (.slice (some ⟨gk, 0, none⟩) 6 ck) (P k) ∧ ¬ A gk) (hrow : Row6 w1 base (.slice (some ⟨gk, 0, none⟩) 6 ck) (P i)) (hgk : ¬ A gk)
    (hf : Fr (fun b => vw.ownBlock = some b) w1 w2) (hown : w2.ownsRow base 34 1 v2 (i + 1) (ss ++ [.slice (some ⟨gk, 0, none⟩) 6 ck])) (hap : ∀ b, v2.ownBlock = some b → ¬ A b) : WasAt w2 base A v2 (i + 1) P := by
  have hl : ss.length = i := by have := h1.1; omega
  have hne : ∀ {g : Nat} {c : Nat} {C : Pgs}, Row6 w1 base (.slice (some ⟨g, 0, none⟩) 6 c) C → Row6 w2 base (.slice (some ⟨g, 0, none⟩) 6 c) C := fun {g c C} hr => own_fr hr hf (fun b hb e => by
    obtain ⟨cs1, hb1⟩ := own_blk (show w1.ownsRow base 9 1 _ 6 _ from hr) hb
    obtain ⟨cs2, hb2⟩ := own_blk h1 e
    exact Blk.ne_ (t := 9) (t' := 34) hb1 hb2 (by decide) rfl)
  refine ⟨⟨_, hown, fun k hk => ?_⟩, hap⟩
  rcases Nat.lt_or_ge k i with e | e
  · obtain ⟨g1, c1, e1, e2, e3⟩ := h2 k e
    exact ⟨g1, c1, by rw [List.getElem?_append_left (by omega)]; exact e1, hne e2, e3⟩
  · obtain rfl : k = i := by omega
    exact ⟨gk, ck, by rw [List.getElem?_append_right (by omega), hl, Nat.sub_self]; rfl, hne hrow, hgk⟩
/-- Something else turns. -/
theorem TW.other {F : Nat → Prop} (h : TW w0 w RS RO U g s M K T log frames nv lv N) (hf : Fr F w w') (hF : ∀ b, F b → ¬ All3 RS RO U b ∧ nv.ownBlock ≠ some b ∧ b ≠ g ∧ w0.heap.size ≤ b) : TW w0 w' RS RO U g s M K T log frames nv lv N :=
  ⟨h.wld.fr hf (fun e => (hF _ e).2.2.1 rfl), h.tx.fr hf (fun b hb e => (hF b e).1 (.inl hb)) (fun b hb e => (hF b e).1 (.inr (.inl hb))) (fun b hb e => (hF b e).1 (.inr (.inr hb))), own_fr h.now hf (fun b hb e => (hF b e).2.1 hb), h.nvb, h.hi, h.ng, h.gg, h.fr.step hf (fun i hi e => by have := (hF i e).2.2.2; omega)⟩
theorem row6_list_len (C : Pgs) : ((List.range 6).map fun i => tS (C i)).length = 6 * 1 := by simp
theorem row6_one (C : Pgs) : ∀ u ∈ ((List.range 6).map fun i => tS (C i)), u.oneCell' = true := by
  intro u hu
  obtain ⟨i, _, rfl⟩ := List.mem_map.1 hu
  rfl
end
end Go.Proofs.YtfapklpcgcgahaaGreatDoor

/-
  What may turn of a world, and what a transaction's pages are long.
-/
namespace Go.Proofs.YtfapklpcgcgahaaGreatDoor
set_option linter.unusedSimpArgs false
set_option linter.unusedVariables false
open Go.RowKit Go.Maps

section
variable {w0 w w' : World} {RS RO U : Nat → Prop} {g s M K : Nat} {T : TS} {log frames : Int} {nv lv : Value} {N : Pgs} {d logn : Nat} {C B : Pgs} {svs : List (Nat × Nat × Pgs)} {n last undone : Nat} {q : Int}
theorem TB.len (hb : TB T d logn C B svs n last undone q) (h : TxIn RS RO U w s 6 M K T) (k : Nat) (hk : k < 6) : (C k).length = 480 := by
  rw [← hb.pages]; exact (h.pool.vok k hk).1.d
theorem WasAt.get {base i : Nat} {A : Nat → Prop} {vw : Value} {P : Nat → Pgs} (h : WasAt w base A vw i P) (k : Nat) (hk : k < i) : ∃ gv cv gk ck, vw = .slice (some ⟨gv, 0, none⟩) i cv ∧ i ≤ cv ∧ w.cell? ⟨gv, k, none⟩ = some (.slice (some ⟨gk, 0, none⟩) 6 ck) ∧ Row6 w base (.slice (some ⟨gk, 0, none⟩) 6 ck) (P k) ∧ ¬ A gk := by
  obtain ⟨⟨ss, h1, h2⟩, h3⟩ := h
  obtain ⟨gk, ck, e1, e2, e3⟩ := h2 k hk
  have h1' := h1
  rcases h1'.2 with ⟨_, e⟩ | ⟨gv, cv, cur, e, _, _, h5, _⟩
  · omega
  · subst e
    exact ⟨gv, cv, gk, ck, rfl, h5, by rw [h1.cellAt k (by omega)]; exact e1, e2, e3⟩
end
/-- All of a world's blocks that may turn. -/
def AllN (RS RO U : Nat → Prop) (nv : Value) : Nat → Prop := fun b => All3 RS RO U b ∨ nv.ownBlock = some b
theorem Subs.alln {w w' : World} {RS RO U RS' RO' U' : Nat → Prop} {nv : Value} (hs : Subs RS RS' RO RO' U U' w w') : ∀ b, AllN RS' RO' U' nv b → AllN RS RO U nv b ∨ w.heap.size ≤ b := fun b hb => by
  rcases hb with (hb | hb | hb) | hb
  · exact (hs.rs b hb).imp (fun e => .inl (.inl e)) id
  · exact (hs.ro b hb).imp (fun e => .inl (.inr (.inl e))) id
  · exact (hs.u b hb).imp (fun e => .inl (.inr (.inr e))) id
  · exact .inl (.inr hb)
end Go.Proofs.YtfapklpcgcgahaaGreatDoor
