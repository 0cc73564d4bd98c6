/-
  How a log lies in memory.
-/
import Derived.Test.YtieiopeblleheaaWal6
import Derived.Test.YtieiopeblleheaaDiskCalls
import Derived.Test.YtieiopeblleheaaOwnF
namespace Go.Proofs.Ytieiopeblleheaa
set_option linter.unusedSimpArgs false
set_option linter.unusedVariables false
open Go.RowKit

/-- A log, as its fields have it (its disk apart). -/
structure LS where
  start : Nat
  n : Nat
  first : Nat
  next : Nat
  flushed : Nat
  l : List (List UInt8 × Nat)
  fin : Nat
  kept : Nat
  life : Nat
  turn : Nat
  room : Int

def recCells (rv : List (Value × Nat)) : List Value := rv.flatMap fun x => [x.1, .int .u64 x.2]
theorem recCells_snoc (rv : List (Value × Nat)) (x : Value × Nat) : recCells (rv ++ [x]) = recCells rv ++ [x.1, .int .u64 x.2] := by simp [recCells]
theorem recCells_get (rv : List (Value × Nat)) (k : Nat) (h : k < rv.length) : (recCells rv)[k * 2]? = some rv[k].1 ∧ (recCells rv)[k * 2 + 1]? = some (.int .u64 rv[k].2) := by
  induction rv generalizing k with
  | nil => simp at h
  | cons x rv ih =>
    cases k with
    | zero => simp [recCells]
    | succ k =>
      have hk : k < rv.length := by simpa using h
      have := ih k hk
      simp only [recCells, List.flatMap_cons, List.cons_append, List.nil_append] at this ⊢
      rw [show (k + 1) * 2 = k * 2 + 1 + 1 from by omega]
      simpa using this

/-- The bytes of a record, in a block of their own within R. -/
def RecIn (R : Nat → Prop) (w : World) (v : Value) (b : List UInt8) : Prop :=
  w.ownsRow 0 5 1 v b.length (bts b) ∧ ∀ g, v.ownBlock = some g → R g
theorem RecIn.fr {R F : Nat → Prop} {w w' : World} {v : Value} {b : List UInt8} (h : RecIn R w v b) (hf : Fr F w w') (hd : ∀ g, R g → g < w.heap.size → ¬ F g) : RecIn R w' v b :=
  ⟨own_fr h.1 hf (fun g hg => hd g (h.2 g hg) (own_lt h.1 hg)), h.2⟩
/-- Kept where only rows of other kinds change. -/
theorem RecIn.far {R F : Nat → Prop} {w w' : World} {v : Value} {b : List UInt8} (h : RecIn R w v b) (hf : Fr F w w') (hd : ∀ g, F g → g < w.heap.size → ∃ t cs, Blk w g t cs ∧ t ≠ 5) : RecIn R w' v b :=
  ⟨own_fr h.1 hf (fun g hg hF => by
    obtain ⟨t, cs, hb, ht⟩ := hd g hF (own_lt h.1 hg)
    exact Blk.own_ne hb h.1 ht (by rw [hg])), h.2⟩
theorem RecIn.more {R R' : Nat → Prop} {w : World} {v : Value} {b : List UInt8} (h : RecIn R w v b) (hd : ∀ g, R g → R' g) : RecIn R' w v b := ⟨h.1, fun g hg => hd g (h.2 g hg)⟩

def Recs (R : Nat → Prop) (w : World) (rv : List (Value × Nat)) (l : List (List UInt8 × Nat)) : Prop :=
  rv.length = l.length ∧ ∀ (i : Nat) x y, rv[i]? = some x → l[i]? = some y → x.2 = y.2 ∧ y.2 < 18446744073709551616 ∧ RecIn R w x.1 y.1

structure LogAt (R : Nat → Prop) (w : World) (p d : Nat) (lv : Value) (rv : List (Value × Nat)) (L : LS) : Prop where
  blk : Blk w p 92 #[.pointer (some ⟨d, 0, none⟩), .int .i64 L.start, .int .i64 L.n, .int .u64 L.first, .int .u64 L.next, .int .u64 L.flushed, lv, .int .u64 L.fin, .int .u64 L.kept, .int .u64 L.life, .int .u64 L.turn, .int .i64 L.room]
  own : OwnF w 99 2 lv L.l.length (recCells rv)
  recs : Recs R w rv L.l
  nn : ∀ x ∈ rv, x.1 ≠ .slice none 0 0
  rp : R p
  rl : ∀ g, lv.ownBlock = some g → R g
  lt : ∀ b, R b → b < w.heap.size
  n0 : 16 ≤ L.n
  n1 : L.n ≤ 32768
  s1 : L.start ≤ 65536
  b1 : L.first < 18446744073709551616
  b2 : L.next < 18446744073709551616
  b3 : L.flushed < 18446744073709551616
  b4 : L.fin < 18446744073709551616
  b5 : L.kept < 18446744073709551616
  b6 : L.life < 18446744073709551616
  b7 : L.turn < 18446744073709551616
def LogOk (R : Nat → Prop) (w : World) (p d : Nat) (L : LS) : Prop := ∃ lv rv, LogAt R w p d lv rv L

section
variable {R : Nat → Prop} {w : World} {p d : Nat} {L : LS} {lv : Value} {rv : List (Value × Nat)}
theorem LogAt.fr {F : Nat → Prop} {w' : World} (h : LogAt R w p d lv rv L) (hf : Fr F w w') (hd : ∀ b, R b → ¬ F b) : LogAt R w' p d lv rv L :=
  { h with
    blk := h.blk.fr hf (hd _ h.rp)
    own := h.own.fr hf (fun g hg => hd g (h.rl g hg))
    recs := ⟨h.recs.1, fun i x y hx hy => ⟨(h.recs.2 i x y hx hy).1, (h.recs.2 i x y hx hy).2.1, (h.recs.2 i x y hx hy).2.2.fr hf (fun g hg _ => hd g hg)⟩⟩
    lt := fun b hb => Nat.lt_of_lt_of_le (h.lt b hb) hf.size }
theorem LogOk.fr {F : Nat → Prop} {w' : World} (h : LogOk R w p d L) (hf : Fr F w w') (hd : ∀ b, R b → ¬ F b) : LogOk R w' p d L := by
  obtain ⟨lv, rv, h⟩ := h; exact ⟨lv, rv, h.fr hf hd⟩
theorem LogOk.new {w' : World} (h : LogOk R w p d L) (hf : Fr Nob w w') : LogOk R w' p d L := h.fr hf (fun _ _ h => h)
theorem LogOk.drewN (h : LogOk R w p d L) (n : Nat) : LogOk R (w.drewN n) p d L := h.new ((Fr.refl _ w).drewN n)
theorem LogAt.cells (h : LogAt R w p d lv rv L) : w.cell? ⟨p, 0, none⟩ = some (.pointer (some ⟨d, 0, none⟩)) ∧ w.cell? ⟨p, 1, none⟩ = some (.int .i64 L.start) ∧ w.cell? ⟨p, 2, none⟩ = some (.int .i64 L.n) ∧ w.cell? ⟨p, 3, none⟩ = some (.int .u64 L.first) ∧
    w.cell? ⟨p, 4, none⟩ = some (.int .u64 L.next) ∧ w.cell? ⟨p, 5, none⟩ = some (.int .u64 L.flushed) ∧ w.cell? ⟨p, 6, none⟩ = some lv ∧ w.cell? ⟨p, 7, none⟩ = some (.int .u64 L.fin) ∧ w.cell? ⟨p, 8, none⟩ = some (.int .u64 L.kept) ∧
    w.cell? ⟨p, 9, none⟩ = some (.int .u64 L.life) ∧ w.cell? ⟨p, 10, none⟩ = some (.int .u64 L.turn) ∧ w.cell? ⟨p, 11, none⟩ = some (.int .i64 L.room) :=
  ⟨h.blk.cell 0, h.blk.cell 1, h.blk.cell 2, h.blk.cell 3, h.blk.cell 4, h.blk.cell 5, h.blk.cell 6, h.blk.cell 7, h.blk.cell 8, h.blk.cell 9, h.blk.cell 10, h.blk.cell 11⟩

/-- The log's own small cells change. -/
theorem LogAt.upd {w' : World} (h : LogAt R w p d lv rv L) (hf : Fr (fun k => k = p) w w') (f x fl fi k li t : Nat) (ro : Int) (b1 : f < 18446744073709551616) (b2 : x < 18446744073709551616) (b3 : fl < 18446744073709551616) (b4 : fi < 18446744073709551616)
    (b5 : k < 18446744073709551616) (b6 : li < 18446744073709551616) (b7 : t < 18446744073709551616)
    (hb : Blk w' p 92 #[.pointer (some ⟨d, 0, none⟩), .int .i64 L.start, .int .i64 L.n, .int .u64 f, .int .u64 x, .int .u64 fl, lv, .int .u64 fi, .int .u64 k, .int .u64 li, .int .u64 t, .int .i64 ro]) :
    LogAt R w' p d lv rv { L with first := f, next := x, flushed := fl, fin := fi, kept := k, life := li, turn := t, room := ro } :=
  { h with
    blk := hb
    own := h.own.fr hf (fun g hg he => by subst he; exact Blk.ownF_ne h.blk h.own (by decide) (by rw [hg]))
    recs := ⟨h.recs.1, fun i x y hx hy => ⟨(h.recs.2 i x y hx hy).1, (h.recs.2 i x y hx hy).2.1, (h.recs.2 i x y hx hy).2.2.far hf (fun g hg _ => by subst hg; exact ⟨_, _, h.blk, by decide⟩)⟩⟩
    lt := fun b hb => Nat.lt_of_lt_of_le (h.lt b hb) hf.size
    b1 := b1
    b2 := b2
    b3 := b3
    b4 := b4
    b5 := b5
    b6 := b6
    b7 := b7 }

theorem ring_any (h : LogOk R w p d L) : Calls Try.prog 64 #[.pointer (some ⟨p, 0, none⟩)] w fun e w' => e = .returned (.int .u64 ((L.n - 2 : Nat))) ∧ w = w' := by
  obtain ⟨lv, rv, h⟩ := h
  obtain ⟨_, _, h2, _⟩ := h.cells
  have hp := h.blk.lt
  have g0 := h.n0
  have g1 := h.n1
  clear h
  go_enter Try.func64, Try.ntmps64
  go_wp2
  go_ret
  exact ⟨by rw [show ((L.n : Int) - 2) = ((L.n - 2 : Nat) : Int) from by omega]; rfl, rfl⟩

/-- Where a sector of a number stands. -/
def LS.place (L : LS) (no : Nat) : Nat := L.start + 2 + no % (L.n - 2)
theorem place_any (no : Nat) (h : LogOk R w p d L) (hno : no < 18446744073709551616) : Calls Try.prog 58 #[.pointer (some ⟨p, 0, none⟩), .int .u64 no] w fun e w' => e = .returned (.int .i64 (L.place no)) ∧ Fr Nob w w' := by
  have HR : Hid (∀ n, Calls Try.prog 64 #[.pointer (some ⟨p, 0, none⟩)] (w.drewN n) fun e w' => e = .returned (.int .u64 ((L.n - 2 : Nat))) ∧ w.drewN n = w') := fun n => ring_any (h.drewN n)
  obtain ⟨lv, rv, h⟩ := h
  obtain ⟨_, h1, _⟩ := h.cells
  have hp := h.blk.lt
  have g0 := h.n0
  have g1 := h.n1
  have g2 := h.s1
  clear h
  unfold LS.place
  obtain ⟨r, hr⟩ : ∃ r, L.n - 2 = r := ⟨_, rfl⟩
  rw [hr] at HR
  rw [hr]
  have r0 : 14 ≤ r := by omega
  have r1 : r ≤ 32766 := by omega
  have hm : no % r < r := Nat.mod_lt _ (by omega)
  have e1 : Int.tmod (no : Int) (r : Int) = ((no % r : Nat) : Int) := by rw [Int.tmod_eq_emod_of_nonneg (by omega)]; rfl
  have e2 : IntKind.i64.wrap (((no % r : Nat)) : Int) = ((no % r : Nat) : Int) := by rw [IntKind.wrap_i64]; omega
  have e3 : IntKind.i64.wrap ((L.start : Int) + 2) = (L.start : Int) + 2 := by rw [IntKind.wrap_i64]; omega
  have e4 : IntKind.i64.wrap ((L.start : Int) + 2 + ((no % r : Nat) : Int)) = (L.start : Int) + 2 + ((no % r : Nat) : Int) := by rw [IntKind.wrap_i64]; omega
  have hr0 : ¬ (r : Int) = 0 := by omega
  clear hr
  generalize no % r = m at *
  go_enter Try.func58, Try.ntmps58
  go_wp2
  go_quiet ((go_at_call 64; exact quiet_eq (HR.out _)))
  go_wp2
  go_ret
  exact ⟨by rw [show (L.start : Int) + 2 + (m : Int) = ((L.start + 2 + m : Nat) : Int) from by omega]; rfl, (Fr.refl _ w).drewN nq⟩
end
end Go.Proofs.Ytieiopeblleheaa
