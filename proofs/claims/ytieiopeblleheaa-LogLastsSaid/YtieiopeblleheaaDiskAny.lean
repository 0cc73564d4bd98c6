/-
  The calls on a disk and on the document's, whatever they are asked: one contract for each, and the same answer.
-/
import Derived.Test.YtieiopeblleheaaSame2
import Derived.Test.YtieiopeblleheaaDisk11
import Derived.Test.YtieiopeblleheaaRowKitX
namespace Go.Proofs.Ytieiopeblleheaa
set_option linter.unusedSimpArgs false
set_option linter.unusedVariables false
open Go.RowKit

/-- What Write answers, and leaves. -/
def DS.wcode (S : DS) (i : Int) (m : Nat) : Int := if i < 0 ∨ (S.now.length : Int) ≤ i ∨ m ≠ 64 then 1 else if S.dead = true then 50 else 0
def DS.wrote (S : DS) (i : Int) (s : List UInt8) : DS := if S.wcode i s.length = 0 then S.wr i.toNat s else S
def DS.fcode (S : DS) : Int := if S.dead = true then 50 else 0
def DS.flushed (S : DS) : DS := if S.dead = true then S else S.flush

section
variable {R : Nat → Prop} {w : World} {p : Nat} {S : DS}

theorem DS.wcode_good {S : DS} {i : Int} {m : Nat} (h : S.wcode i m = 0) : 0 ≤ i ∧ i < S.now.length ∧ m = 64 ∧ S.dead = false := by
  unfold DS.wcode at h
  split at h
  · cases h
  · split at h
    · cases h
    · rename_i h1 h2
      exact ⟨by omega, by omega, by omega, by simpa using h2⟩

theorem DiskOk.ext {w' : World} (h : DiskOk R w p S) (hf : w.heap.size ≤ w'.heap.size) (hd : DiskOk R w' p S) : DiskOk (Ext R w w') w' p S := by
  have hl : ∀ b, R b → b < w.heap.size := fun b hb => h.lt hb
  obtain ⟨nb, lb, nv, lv, wv, ws, hd⟩ := hd
  exact ⟨nb, lb, nv, lv, wv, ws, hd.more (fun b hb => .inl hb) (fun b hb => by
    rcases hb with hb | hb
    · have := hl b hb; omega
    · exact hb.2)⟩

theorem Write_any (i : Int) (g m c : Nat) (s : List UInt8) (h : DiskOk R w p S) (hm : s.length = m) (hc : ∀ j u, (bts s)[j]? = some u → w.cell? ((⟨g, 0, none⟩ : Addr).add j) = some u) (hg : g < w.heap.size) (hwl : S.waits.length < 4000000000) :
    Calls Try.prog 11 #[.pointer (some ⟨p, 0, none⟩), .int .i64 i, .slice (some ⟨g, 0, none⟩) m c] w fun e w' => e = .returned (.int .i64 (S.wcode i m)) ∧ DiskOk (Ext R w w') w' p (S.wrote i s) ∧ FrD R w w' := by
  subst hm
  have hn : FrD R w w := Fr.refl _ _
  unfold DS.wrote
  unfold DS.wcode
  by_cases h1 : i < 0 ∨ (S.now.length : Int) ≤ i ∨ s.length ≠ 64
  · rw [if_pos h1]
    refine (Write_bad i _ _ c h h1).mono ?_
    rintro e w' ⟨rfl, rfl⟩
    exact ⟨rfl, h.ext (Nat.le_refl _) h, hn⟩
  · rw [if_neg h1]
    have hl : s.length = 64 := by omega
    by_cases h2 : S.dead = true
    · rw [if_pos h2]
      rw [hl]
      refine (Write_dead i _ c h (by omega) (by omega) h2).mono ?_
      rintro e w' ⟨rfl, rfl⟩
      exact ⟨rfl, h.ext (Nat.le_refl _) h, hn⟩
    · rw [if_neg h2]
      obtain ⟨k, rfl⟩ := Int.eq_ofNat_of_zero_le (show 0 ≤ i by omega)
      rw [hl]
      refine (Write_goodD k ⟨g, 0, none⟩ c s h (by omega) (by simpa using h2) hl hc hg hwl).mono ?_
      rintro e w' ⟨rfl, hd, hf⟩
      exact ⟨rfl, by rw [if_pos rfl, Int.toNat_natCast]; exact hd, hf⟩

theorem Flush_any (h : DiskOk R w p S) (hwl : S.waits.length < 4000000000) :
    Calls Try.prog 13 #[.pointer (some ⟨p, 0, none⟩)] w fun e w' => e = .returned (.int .i64 S.fcode) ∧ DiskOk R w' p S.flushed ∧ FrD R w w' := by
  unfold DS.fcode DS.flushed
  by_cases h2 : S.dead = true
  · rw [if_pos h2, if_pos h2]
    refine (Flush_dead h h2).mono ?_
    rintro e w' ⟨rfl, rfl⟩
    exact ⟨rfl, h, Fr.refl _ _⟩
  · rw [if_neg h2, if_neg h2]
    exact Flush_goodD h (by simpa using h2) hwl

theorem RefOk.ext {w' : World} (h : RefOk R w p S) (hf : w.heap.size ≤ w'.heap.size) (hd : RefOk R w' p S) : RefOk (Ext R w w') w' p S := by
  have hl : ∀ b, R b → b < w.heap.size := fun b hb => h.lt hb
  obtain ⟨s1, s2, hd⟩ := hd
  have hlt : ∀ b, Ext R w w' b → b < w'.heap.size := by
    rintro b (hb | hb)
    · have := hl b hb; omega
    · exact hb.2
  exact ⟨s1, s2, { hd with rq := .inl hd.rq, r1 := fun g hg => .inl (hd.r1 g hg), r2 := fun g hg => .inl (hd.r2 g hg), lt := hlt }⟩

theorem RefWrite_any (i : Int) (b : List UInt8) (h : RefOk R w p S) (hll : S.last.length = S.now.length) (hwl : S.waits.length < 4000000000) :
    Calls Try.prog 25 #[.pointer (some ⟨p, 0, none⟩), .int .i64 i, .string ⟨b.toArray⟩] w fun e w' => e = .returned (.int .i64 (S.wcode i b.length)) ∧ RefOk (Ext R w w') w' p (S.wrote i b) ∧ Fr R w w' := by
  have hn : Fr R w w := Fr.refl _ _
  unfold DS.wrote
  unfold DS.wcode
  by_cases h1 : i < 0 ∨ (S.now.length : Int) ≤ i ∨ b.length ≠ 64
  · rw [if_pos h1]
    refine (RefWrite_bad i b h (by omega)).mono ?_
    rintro e w' ⟨rfl, rfl⟩
    exact ⟨rfl, h.ext (Nat.le_refl _) h, hn⟩
  · rw [if_neg h1]
    have hl : b.length = 64 := by omega
    by_cases h2 : S.dead = true
    · rw [if_pos h2]
      refine (RefWrite_dead i b h (by omega) (by omega) hl h2).mono ?_
      rintro e w' ⟨rfl, rfl⟩
      exact ⟨rfl, h.ext (Nat.le_refl _) h, hn⟩
    · rw [if_neg h2]
      obtain ⟨k, rfl⟩ := Int.eq_ofNat_of_zero_le (show 0 ≤ i by omega)
      refine (RefWrite_good k b h (by omega) hl (by simpa using h2) hwl).mono ?_
      rintro e w' ⟨rfl, hd, hf⟩
      exact ⟨rfl, by rw [if_pos rfl, Int.toNat_natCast]; exact hd, hf⟩

theorem RefFlush_any (h : RefOk R w p S) (hwl : S.waits.length < 4000000000) :
    Calls Try.prog 27 #[.pointer (some ⟨p, 0, none⟩)] w fun e w' => e = .returned (.int .i64 S.fcode) ∧ RefOk R w' p S.flushed ∧ Fr R w w' := by
  unfold DS.fcode DS.flushed
  by_cases h2 : S.dead = true
  · rw [if_pos h2, if_pos h2]
    refine (RefFlush_dead h h2).mono ?_
    rintro e w' ⟨rfl, rfl⟩
    exact ⟨rfl, h, Fr.refl _ _⟩
  · rw [if_neg h2, if_neg h2]
    exact RefFlush_good h (by simpa using h2) hwl

theorem RefSet_any (n : Int) (h : RefOk R w p S) (hn : -9223372036854775808 ≤ n) (hn2 : n ≤ 9223372036854775807) :
    Calls Try.prog 29 #[.pointer (some ⟨p, 0, none⟩), .int .i64 n] w fun e w' => e = .returned (.tuple #[]) ∧ RefOk R w' p (S.set n) ∧ Fr R w w' := by
  obtain ⟨s1, s2, h⟩ := h
  refine (RefSet_at n h hn hn2).mono ?_
  rintro e w' ⟨rfl, hd, hf⟩
  exact ⟨rfl, ⟨s1, s2, hd⟩, hf.mono (fun b _ e => by subst e; exact h.rq)⟩
end

/-! ### what the words keep -/
theorem Good.burn {S : DS} (h : Good S) : Good S.burn := by
  unfold DS.burn; split <;> exact h
theorem Good.wrote {S : DS} (h : Good S) (i : Int) (s : List UInt8) : Good (S.wrote i s) := by
  unfold DS.wrote
  split
  · refine Good.burn ?_
    unfold Good
    simp only [DS.wr0]
    rw [setAll_snoc, ← h]
  · exact h
theorem Good.flushed {S : DS} (h : Good S) : Good S.flushed := by
  unfold DS.flushed
  split
  · exact h
  · refine Good.burn ?_
    unfold Good
    simp only [DS.flush0]
    rw [setAll_nil]; exact h
theorem Good.crash {S : DS} (keep : List Int) : Good (S.crash keep) := rfl
theorem Good.set {S : DS} (h : Good S) (n : Int) : Good (S.set n) := h
theorem Good.new (n : Nat) : Good (DS.new n) := rfl
theorem DS.waits_burn (S : DS) : S.burn.waits = S.waits := by unfold DS.burn; split <;> rfl
theorem DS.waits_wrote (S : DS) (i : Int) (s : List UInt8) : (S.wrote i s).waits.length ≤ S.waits.length + 1 := by
  unfold DS.wrote
  split
  · unfold DS.wr; rw [DS.waits_burn]; simp [DS.wr0]
  · omega
theorem DS.waits_flushed (S : DS) : S.flushed.waits.length ≤ S.waits.length := by
  unfold DS.flushed
  split
  · omega
  · unfold DS.flush; rw [DS.waits_burn]; simp [DS.flush0]

/-! ### a disk and the document's side by side -/
structure PlayIn (w wr : World) (p q : Nat) (Sd Sq : DS) (X R R2 : Nat → Prop) : Prop where
  d : DiskOk R wr p Sd
  r : RefOk R2 wr q Sq
  dw : ∀ b, R b → w.heap.size ≤ b
  rw : ∀ b, R2 b → w.heap.size ≤ b
  apart : ∀ b, R b → ¬ R2 b
  x : ∀ b, X b → w.heap.size ≤ b ∧ b < wr.heap.size ∧ ¬ R b ∧ ¬ R2 b
  fr : Fr Nob w wr
def PlayMem (w wr : World) (p q : Nat) (Sd Sq : DS) (X : Nat → Prop) : Prop := ∃ R R2, PlayIn w wr p q Sd Sq X R R2

section
variable {w wr : World} {p q : Nat} {Sd Sq : DS} {X : Nat → Prop}
theorem PlayMem.frame (h : PlayMem w wr p q Sd Sq X) : Fr Nob w wr := by
  obtain ⟨R, R2, h⟩ := h; exact h.fr
theorem PlayMem.lens (h : PlayMem w wr p q Sd Sq X) : Sd.last.length = Sd.now.length := by
  obtain ⟨R, R2, h⟩ := h; exact h.d.lens
/-- New blocks, which the caller may keep for itself. -/
theorem PlayMem.new {w2 : World} (h : PlayMem w wr p q Sd Sq X) (hf : Fr Nob wr w2) (X' : Nat → Prop) (hx : ∀ b, X' b → X b ∨ (wr.heap.size ≤ b ∧ b < w2.heap.size)) : PlayMem w w2 p q Sd Sq X' := by
  obtain ⟨R, R2, h⟩ := h
  have z1 := h.fr.size
  have z2 := hf.size
  refine ⟨R, R2, { h with d := h.d.new hf, r := h.r.new hf, x := fun b hb => ?_, fr := h.fr.trans hf }⟩
  rcases hx b hb with hb | hb
  · have := h.x b hb
    exact ⟨this.1, by omega, this.2.2⟩
  · exact ⟨by omega, hb.2, fun hr => by have := h.d.lt hr; omega, fun hr => by have := h.r.lt hr; omega⟩
theorem PlayMem.new' {w2 : World} (h : PlayMem w wr p q Sd Sq X) (hf : Fr Nob wr w2) : PlayMem w w2 p q Sd Sq X := h.new hf X (fun _ hb => .inl hb)
/-- The caller writes a block of its own. -/
theorem PlayMem.touch {w2 : World} {g : Nat} (h : PlayMem w wr p q Sd Sq X) (hg : X g) (hf : Fr (fun b => b = g) wr w2) : PlayMem w w2 p q Sd Sq X := by
  obtain ⟨R, R2, h⟩ := h
  have z2 := hf.size
  have hx := h.x g hg
  exact ⟨R, R2, { h with
    d := h.d.fr hf (fun b hb e => by subst e; exact hx.2.2.1 hb)
    r := h.r.fr hf (fun b hb e => by subst e; exact hx.2.2.2 hb)
    x := fun b hb => by have := h.x b hb; exact ⟨this.1, by omega, this.2.2⟩
    fr := h.fr.step hf (fun i hi e => by have := hx.1; omega) }⟩
theorem PlayIn.stepD {R R' R2 : Nat → Prop} {w' : World} {S' : DS} (h : PlayIn w wr p q Sd Sq X R R2) (hf : Fr R wr w') (hd : DiskOk R' w' p S') (hx : ∀ b, R' b → R b ∨ wr.heap.size ≤ b) : PlayIn w w' p q S' Sq X R' R2 := by
  have z1 := h.fr.size
  have z2 := hf.size
  exact { h with
    d := hd
    r := h.r.fr hf (fun b hb hr => h.apart b hr hb)
    dw := fun b hb => by
      rcases hx b hb with hb | hb
      · exact h.dw b hb
      · omega
    apart := fun b hb hr => by
      rcases hx b hb with hb | hb
      · exact h.apart b hb hr
      · have := h.r.lt hr; omega
    x := fun b hb => by
      have := h.x b hb
      refine ⟨this.1, by omega, fun hr => ?_, this.2.2.2⟩
      rcases hx b hr with hr | hr
      · exact this.2.2.1 hr
      · omega
    fr := h.fr.step hf (fun i hi hm => by have := h.dw i hm; omega) }
theorem PlayIn.stepR {R R2 R2' : Nat → Prop} {w' : World} {S' : DS} (h : PlayIn w wr p q Sd Sq X R R2) (hf : Fr R2 wr w') (hd : RefOk R2' w' q S') (hx : ∀ b, R2' b → R2 b ∨ wr.heap.size ≤ b) : PlayIn w w' p q Sd S' X R R2' := by
  have z1 := h.fr.size
  have z2 := hf.size
  exact { h with
    r := hd
    d := h.d.fr hf (fun b hb hr => h.apart b hb hr)
    rw := fun b hb => by
      rcases hx b hb with hb | hb
      · exact h.rw b hb
      · omega
    apart := fun b hr hb => by
      rcases hx b hb with hb | hb
      · exact h.apart b hr hb
      · have := h.d.lt hr; omega
    x := fun b hb => by
      have := h.x b hb
      refine ⟨this.1, by omega, this.2.2.1, fun hr => ?_⟩
      rcases hx b hr with hr | hr
      · exact this.2.2.2 hr
      · omega
    fr := h.fr.step hf (fun i hi hm => by have := h.rw i hm; omega) }
/-- What the caller keeps stays. -/
theorem PlayIn.keptD {R R2 F : Nat → Prop} {w' : World} {g : Nat} {t : TypeId} {cs : Array Value} (h : PlayIn w wr p q Sd Sq X R R2) (hg : X g) (hb : Blk wr g t cs) (hf : Fr F wr w') (hF : ∀ b, F b → R b ∨ R2 b) : Blk w' g t cs :=
  hb.fr hf (fun hm => by have := h.x g hg; rcases hF g hm with hm | hm; exact this.2.2.1 hm; exact this.2.2.2 hm)

/-- From wr to w' the blocks X of the caller are as they were. -/
def Kept (X : Nat → Prop) (wr w' : World) : Prop := ∀ g, X g → w'.heap[g]? = wr.heap[g]?
theorem PlayIn.kept {R R2 F : Nat → Prop} {w' : World} (h : PlayIn w wr p q Sd Sq X R R2) (hf : Fr F wr w') (hF : ∀ b, F b → R b ∨ R2 b) : Kept X wr w' := fun g hg => by
  have hx := h.x g hg
  exact hf.block g hx.2.1 (fun hm => by rcases hF g hm with hm | hm; exact hx.2.2.1 hm; exact hx.2.2.2 hm)
theorem Kept.blk {w' : World} (h : Kept X wr w') {g : Nat} {t : TypeId} {cs : Array Value} (hg : X g) (hb : Blk wr g t cs) : Blk w' g t cs := (h g hg).trans hb
theorem Kept.trans {a b c : World} (h : Kept X a b) (k : Kept X b c) : Kept X a c := fun g hg => (k g hg).trans (h g hg)
theorem Kept.of_new {w' : World} (h : PlayMem w wr p q Sd Sq X) (hf : Fr Nob wr w') : Kept X wr w' := fun g hg => by
  obtain ⟨R, R2, h⟩ := h
  exact hf.block g (h.x g hg).2.1 (fun h => h)

theorem PlayMem.dWrite (h : PlayMem w wr p q Sd Sq X) (i : Int) (g m c : Nat) (s : List UInt8) (hm : s.length = m) (hc : ∀ j u, (bts s)[j]? = some u → wr.cell? ((⟨g, 0, none⟩ : Addr).add j) = some u) (hg : g < wr.heap.size) (hwl : Sd.waits.length < 4000000000) :
    Calls Try.prog 11 #[.pointer (some ⟨p, 0, none⟩), .int .i64 i, .slice (some ⟨g, 0, none⟩) m c] wr fun e w' => e = .returned (.int .i64 (Sd.wcode i m)) ∧ PlayMem w w' p q (Sd.wrote i s) Sq X ∧ Kept X wr w' := by
  obtain ⟨R, R2, h⟩ := h
  refine (Write_any i g m c s h.d hm hc hg hwl).mono ?_
  rintro e w' ⟨rfl, hd, hf⟩
  exact ⟨rfl, ⟨_, _, h.stepD hf.fr hd (fun b hb => hb.imp id (fun hb => hb.1))⟩, h.kept hf.fr (fun b hb => .inl hb)⟩
theorem PlayMem.rWrite (h : PlayMem w wr p q Sd Sq X) (i : Int) (m : Nat) (b : List UInt8) (hm : b.length = m) (hll : Sq.last.length = Sq.now.length) (hwl : Sq.waits.length < 4000000000) :
    Calls Try.prog 25 #[.pointer (some ⟨q, 0, none⟩), .int .i64 i, .string ⟨b.toArray⟩] wr fun e w' => e = .returned (.int .i64 (Sq.wcode i m)) ∧ PlayMem w w' p q Sd (Sq.wrote i b) X ∧ Kept X wr w' := by
  subst hm
  obtain ⟨R, R2, h⟩ := h
  refine (RefWrite_any i b h.r hll hwl).mono ?_
  rintro e w' ⟨rfl, hd, hf⟩
  exact ⟨rfl, ⟨_, _, h.stepR hf hd (fun b hb => hb.imp id (fun hb => hb.1))⟩, h.kept hf (fun b hb => .inr hb)⟩
theorem PlayMem.dFlush (h : PlayMem w wr p q Sd Sq X) (hwl : Sd.waits.length < 4000000000) :
    Calls Try.prog 13 #[.pointer (some ⟨p, 0, none⟩)] wr fun e w' => e = .returned (.int .i64 Sd.fcode) ∧ PlayMem w w' p q Sd.flushed Sq X ∧ Kept X wr w' := by
  obtain ⟨R, R2, h⟩ := h
  refine (Flush_any h.d hwl).mono ?_
  rintro e w' ⟨rfl, hd, hf⟩
  exact ⟨rfl, ⟨_, _, h.stepD hf.fr hd (fun b hb => .inl hb)⟩, h.kept hf.fr (fun b hb => .inl hb)⟩
theorem PlayMem.rFlush (h : PlayMem w wr p q Sd Sq X) (hwl : Sq.waits.length < 4000000000) :
    Calls Try.prog 27 #[.pointer (some ⟨q, 0, none⟩)] wr fun e w' => e = .returned (.int .i64 Sq.fcode) ∧ PlayMem w w' p q Sd Sq.flushed X ∧ Kept X wr w' := by
  obtain ⟨R, R2, h⟩ := h
  refine (RefFlush_any h.r hwl).mono ?_
  rintro e w' ⟨rfl, hd, hf⟩
  exact ⟨rfl, ⟨_, _, h.stepR hf hd (fun b hb => .inl hb)⟩, h.kept hf (fun b hb => .inr hb)⟩
theorem PlayMem.dFuse (h : PlayMem w wr p q Sd Sq X) (n : Int) (hn : -9223372036854775808 ≤ n) (hn2 : n ≤ 9223372036854775807) :
    Calls Try.prog 19 #[.pointer (some ⟨p, 0, none⟩), .int .i64 n] wr fun e w' => e = .returned (.tuple #[]) ∧ PlayMem w w' p q (Sd.set n) Sq X ∧ Kept X wr w' := by
  obtain ⟨R, R2, h⟩ := h
  refine (Fuse_any n h.d hn hn2).mono ?_
  rintro e w' ⟨rfl, hd, hf⟩
  exact ⟨rfl, ⟨_, _, h.stepD hf hd (fun b hb => .inl hb)⟩, h.kept hf (fun b hb => .inl hb)⟩
theorem PlayMem.rSet (h : PlayMem w wr p q Sd Sq X) (n : Int) (hn : -9223372036854775808 ≤ n) (hn2 : n ≤ 9223372036854775807) :
    Calls Try.prog 29 #[.pointer (some ⟨q, 0, none⟩), .int .i64 n] wr fun e w' => e = .returned (.tuple #[]) ∧ PlayMem w w' p q Sd (Sq.set n) X ∧ Kept X wr w' := by
  obtain ⟨R, R2, h⟩ := h
  refine (RefSet_any n h.r hn hn2).mono ?_
  rintro e w' ⟨rfl, hd, hf⟩
  exact ⟨rfl, ⟨_, _, h.stepR hf hd (fun b hb => .inl hb)⟩, h.kept hf (fun b hb => .inr hb)⟩
theorem IntsIn.out {A : Option Addr} {keep : List Int} {R : Nat → Prop} (hk : IntsIn w A keep) (hf : Fr Nob w wr) (hR : ∀ b, R b → w.heap.size ≤ b) : IntsOut R wr A keep :=
  ⟨hk.1, fun h0 => by
    obtain ⟨kb, ko, e, hc⟩ := hk.2 h0
    have hlt : kb < w.heap.size := cell_lt (hc 0 _ (List.getElem?_eq_getElem h0))
    exact ⟨kb, ko, e, fun hr => by have := hR kb hr; omega, fun j x hx => (hf.cell (p := ⟨kb, ko + j, none⟩) hlt (fun h => h)).trans (hc j x hx)⟩⟩
theorem PlayMem.dCrash (h : PlayMem w wr p q Sd Sq X) (A : Option Addr) (c : Nat) (keep : List Int) (hk : IntsIn w A keep) (hreach : keep.length * 8 ≤ 140737488351232) (hwl : Sd.waits.length < 4000000000) :
    Calls Try.prog 15 #[.pointer (some ⟨p, 0, none⟩), .slice A keep.length c] wr fun e w' => e = .returned (.tuple #[]) ∧ PlayMem w w' p q (Sd.crash keep) Sq X ∧ Kept X wr w' := by
  obtain ⟨R, R2, h⟩ := h
  refine (Crash_any A c keep h.d (hk.out h.fr h.dw) hreach hwl).mono ?_
  rintro e w' ⟨rfl, hd, hf⟩
  exact ⟨rfl, ⟨_, _, h.stepD hf hd (fun b hb => .inl hb)⟩, h.kept hf (fun b hb => .inl hb)⟩
theorem PlayMem.rCrash (h : PlayMem w wr p q Sd Sq X) (A : Option Addr) (c : Nat) (keep : List Int) (hk : IntsIn w A keep) (hreach : keep.length * 8 ≤ 140737488351232) (hwl : Sq.waits.length < 4000000000) :
    Calls Try.prog 28 #[.pointer (some ⟨q, 0, none⟩), .slice A keep.length c] wr fun e w' => e = .returned (.tuple #[]) ∧ PlayMem w w' p q Sd (Sq.crash keep) X ∧ Kept X wr w' := by
  obtain ⟨R, R2, h⟩ := h
  refine (RefCrash_any A c keep h.r (hk.out h.fr h.rw) hreach hwl).mono ?_
  rintro e w' ⟨rfl, hd, hf⟩
  exact ⟨rfl, ⟨_, _, h.stepR hf hd (fun b hb => .inl hb)⟩, h.kept hf (fun b hb => .inr hb)⟩
end

/-! ### a copy that goes on by itself -/
/-- A disk of which all that it may write was made behind w. -/
def Alone (w wr : World) (c : Nat) (S : DS) : Prop := ∃ R, DiskOk R wr c S ∧ (∀ b, R b → w.heap.size ≤ b ∨ ∃ cs, Blk wr b 5 cs) ∧ Fr Nob w wr
section
variable {w wr : World} {c : Nat} {S : DS}
theorem Alone.new {w2 : World} (h : Alone w wr c S) (hf : Fr Nob wr w2) : Alone w w2 c S := by
  obtain ⟨R, h1, h2, h3⟩ := h
  exact ⟨R, h1.new hf, fun b hb => (h2 b hb).imp id (fun ⟨cs, hcs⟩ => ⟨cs, hcs.fr hf (fun h => h)⟩), h3.trans hf⟩
theorem Alone.frame (h : Alone w wr c S) : Fr Nob w wr := by obtain ⟨R, _, _, h⟩ := h; exact h
theorem Alone.step {R R' : Nat → Prop} {w' : World} {S' : DS} (h1 : DiskOk R wr c S) (h2 : ∀ b, R b → w.heap.size ≤ b ∨ ∃ cs, Blk wr b 5 cs) (h3 : Fr Nob w wr) (hf : FrD R wr w') (hd : DiskOk R' w' c S') (hx : ∀ b, R' b → R b ∨ wr.heap.size ≤ b) : Alone w w' c S' := by
  have z1 := h3.size
  refine ⟨R', hd, fun b hb => ?_, h3.step hf (fun i hi hm => by
    rcases h2 i hm.1 with h | h
    · omega
    · exact (hm.2 h).elim)⟩
  rcases hx b hb with hb | hb
  · exact (h2 b hb).imp id (fun ⟨cs, hcs⟩ => ⟨cs, hf.u8 hcs⟩)
  · exact .inl (by omega)
theorem Alone.write (h : Alone w wr c S) (i : Int) (g m cc : Nat) (s : List UInt8) (hm : s.length = m) (hc : ∀ j u, (bts s)[j]? = some u → wr.cell? ((⟨g, 0, none⟩ : Addr).add j) = some u) (hg : g < wr.heap.size) (hwl : S.waits.length < 4000000000) :
    Calls Try.prog 11 #[.pointer (some ⟨c, 0, none⟩), .int .i64 i, .slice (some ⟨g, 0, none⟩) m cc] wr fun e w' => e = .returned (.int .i64 (S.wcode i m)) ∧ Alone w w' c (S.wrote i s) := by
  obtain ⟨R, h1, h2, h3⟩ := h
  refine (Write_any i g m cc s h1 hm hc hg hwl).mono ?_
  rintro e w' ⟨rfl, hd, hf⟩
  exact ⟨rfl, Alone.step h1 h2 h3 hf hd (fun b hb => hb.imp id (fun hb => hb.1))⟩
theorem Alone.flush (h : Alone w wr c S) (hwl : S.waits.length < 4000000000) :
    Calls Try.prog 13 #[.pointer (some ⟨c, 0, none⟩)] wr fun e w' => e = .returned (.int .i64 S.fcode) ∧ Alone w w' c S.flushed := by
  obtain ⟨R, h1, h2, h3⟩ := h
  refine (Flush_any h1 hwl).mono ?_
  rintro e w' ⟨rfl, hd, hf⟩
  exact ⟨rfl, Alone.step h1 h2 h3 hf hd (fun b hb => .inl hb)⟩
theorem Alone.crash (h : Alone w wr c S) (hwl : S.waits.length < 4000000000) :
    Calls Try.prog 15 #[.pointer (some ⟨c, 0, none⟩), .slice none 0 0] wr fun e w' => e = .returned (.tuple #[]) ∧ Alone w w' c (S.crash []) := by
  obtain ⟨R, h1, h2, h3⟩ := h
  refine (Crash_anyD none 0 [] h1 (IntsOut.nil _ _ _) (by simp) hwl).mono ?_
  rintro e w' ⟨rfl, hd, hf⟩
  exact ⟨rfl, Alone.step h1 h2 h3 hf hd (fun b hb => .inl hb)⟩
theorem PlayMem.copy {p q : Nat} {Sq : DS} {X : Nat → Prop} {w0 : World} (h : PlayMem w0 wr p q S Sq X) (hwl : S.waits.length < 4000000000) :
    Calls Try.prog 21 #[.pointer (some ⟨p, 0, none⟩)] wr fun e w' => ∃ c, e = .returned (.pointer (some ⟨c, 0, none⟩)) ∧ Alone wr w' c S := by
  obtain ⟨R, R2, h⟩ := h
  refine (Copy_ok h.d hwl).mono ?_
  rintro e w' ⟨c, rfl, hc, hd, hf⟩
  refine ⟨c, rfl, _, hd, fun b hb => ?_, hf⟩
  rcases hb with hb | ⟨_, cs, hcs⟩
  · exact .inl hb.1
  · exact .inr ⟨cs, hcs.fr hf (fun h => h)⟩
end
end Go.Proofs.Ytieiopeblleheaa
