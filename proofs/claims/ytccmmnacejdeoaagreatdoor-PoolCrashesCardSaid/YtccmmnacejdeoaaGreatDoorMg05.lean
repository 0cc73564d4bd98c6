/-
  DiskApi, RowKitX, DiskCalls, DiskCalm, DiskW, Bytes0, Num0, Wal1, in one text.
-/
import Derived.Test.YtccmmnacejdeoaaGreatDoorMg02
import Derived.Test.YtccmmnacejdeoaaGreatDoorMg03
import Derived.Test.YtccmmnacejdeoaaGreatDoorMg04
import Derived.Test.YtccmmnacejdeoaaGreatDoorMg01
import Derived.ProofKit
import Derived.OpenShut
import Derived.ShutString
import Derived.ChangeOld
import Derived.SizedLaws
import Derived.Deep.Grids
import Derived.Test.YtccmmnacejdeoaaGreatDoorProg
import Derived.Laws.CopyOwn
import Derived.WalkKit
import Derived.WalkSpells
import Derived.WalkLawsBesides
import Derived.Laws.BytesArg
import Derived.Shelf.Bytes.SlSmallAll
import Derived.RangeFuncOwn
import Derived.Laws.Entries
/-
  The calls on a disk, as their callers meet them: numbers as Go's ints.
-/
namespace Go.Proofs.YtccmmnacejdeoaaGreatDoor
set_option linter.unusedSimpArgs false
set_option linter.unusedVariables false
open Go.RowKit

/-- A row of bytes in a block of its own. -/
def Row64 (w : World) (g : Nat) (s : List UInt8) : Prop := Blk w g 5 (bts s).toArray

section
variable {R : Nat → Prop} {w : World} {p : Nat} {S : DS}




theorem Row64.fr {F : Nat → Prop} {w w' : World} {g : Nat} {s : List UInt8} (h : Row64 w g s) (hf : Fr F w w') (hg : ¬ F g) : Row64 w' g s := Blk.fr h hf hg
theorem Row64.lt {w : World} {g : Nat} {s : List UInt8} (h : Row64 w g s) : g < w.heap.size := Blk.lt h
theorem Row64.conv {w : World} {g : Nat} {s : List UInt8} (h : Row64 w g s) (hs : s.length = 64) :
    (convert 38 9 (.slice (some ⟨g, 0, none⟩) 64 64)).run Tryz.prog w = .ok (.string ⟨s.toArray⟩) w := conv_own (bts_own h hs)
end

theorem DiskOk.len64 {R : Nat → Prop} {w : World} {p : Nat} {S : DS} (h : DiskOk R w p S) {i : Nat} {s : List UInt8} (hs : S.now[i]? = some s) : s.length = 64 := by
  obtain ⟨nb, lb, nv, lv, wv, ws, h⟩ := h
  have hi : i < S.now.length := (List.getElem?_eq_some_iff.1 hs).1
  have hi' : i < nv.length := Nat.lt_of_lt_of_le hi h.now.1
  exact (h.now.2 i nv[i] s (List.getElem?_eq_getElem hi') hs).1

/-! ### what the disk's words come to -/
theorem setAll_nil {α : Type} (l : List α) : setAll l [] = l := rfl
theorem nought_length : nought.length = 64 := by simp [nought]
end Go.Proofs.YtccmmnacejdeoaaGreatDoor

/-
  Words for the rows: slices of ints and of bools that came in.
-/
namespace Go.Proofs.YtccmmnacejdeoaaGreatDoor
set_option linter.unusedSimpArgs false
set_option linter.unusedVariables false
open Go.ChangeShapes Go.WideShapes Go.ChangeAt Go.RowKit

/-- The ints of a slice that came in. -/
def IntsIn (w : World) (A : Option Addr) (keep : List Int) : Prop :=
  (∀ x ∈ keep, (Lit.int .i64 x).wf = true) ∧ (0 < keep.length → ∃ kb ko, A = some ⟨kb, ko, none⟩ ∧ ∀ j x, keep[j]? = some x → w.cell? ⟨kb, ko + j, none⟩ = some (.int .i64 x))

theorem intsIn_of {w : World} {a : Addr} {len : Nat} {zs : List Int} (hl : len ≤ zs.length) (hcell : ∀ i, i < zs.length → w.cell? (a.add i) = some (.int .i64 (zs.getD i 0))) (hwz : ∀ n ∈ zs, (Lit.int .i64 n).wf = true) :
    IntsIn w (some a) (zs.take len) := by
  refine ⟨fun x hx => hwz x (List.mem_of_mem_take hx), fun h0 => ?_⟩
  obtain ⟨b, off, spot⟩ := a
  have h0' : 0 < zs.length := by simp at h0; omega
  have hspot : spot = none := by simpa [Addr.add] using World.cell?_spot (hcell 0 h0')
  subst hspot
  refine ⟨b, off, rfl, fun j x hx => ?_⟩
  have hj : j < len ∧ j < zs.length := by
    have := (List.getElem?_eq_some_iff.1 hx).1
    simp at this; omega
  have := hcell j hj.2
  rw [List.getElem?_take_of_lt hj.1, List.getElem?_eq_getElem hj.2] at hx
  injection hx with hx
  rw [← add_plain, this]
  simp [List.getD, List.getElem?_eq_getElem hj.2, hx]

end Go.Proofs.YtccmmnacejdeoaaGreatDoor

/-
  The calls on a disk, whatever they are asked: one contract for each.
-/
namespace Go.Proofs.YtccmmnacejdeoaaGreatDoor
set_option linter.unusedSimpArgs false
set_option linter.unusedVariables false
open Go.RowKit

/-- What Write answers, and leaves. -/
def DS.wcode (S : DS) (i : Int) (m : Nat) : Int := if i < 0 ∨ (S.now.length : Int) ≤ i ∨ m ≠ 64 then 1 else if S.dead = true then 50 else 0
def DS.wrote (S : DS) (i : Int) (s : List UInt8) : DS := if S.wcode i s.length = 0 then S.wr i.toNat s else S
def DS.fcode (S : DS) : Int := if S.dead = true then 50 else 0
def DS.flushed (S : DS) : DS := if S.dead = true then S else S.flush

section
variable {R : Nat → Prop} {w : World} {p : Nat} {S : DS}


theorem DiskOk.ext {w' : World} (h : DiskOk R w p S) (hf : w.heap.size ≤ w'.heap.size) (hd : DiskOk R w' p S) : DiskOk (Ext R w w') w' p S := by
  have hl : ∀ b, R b → b < w.heap.size := fun b hb => h.lt hb
  obtain ⟨nb, lb, nv, lv, wv, ws, hd⟩ := hd
  exact ⟨nb, lb, nv, lv, wv, ws, hd.more (fun b hb => .inl hb) (fun b hb => by
    rcases hb with hb | hb
    · have := hl b hb; omega
    · exact hb.2)⟩

theorem Write_any (i : Int) (g m c : Nat) (s : List UInt8) (h : DiskOk R w p S) (hm : s.length = m) (hc : ∀ j u, (bts s)[j]? = some u → w.cell? ((⟨g, 0, none⟩ : Addr).add j) = some u) (hg : g < w.heap.size) (hwl : S.waits.length < 4000000000) :
    Calls Tryz.prog 74 #[.pointer (some ⟨p, 0, none⟩), .int .i64 i, .slice (some ⟨g, 0, none⟩) m c] w fun e w' => e = .returned (.int .i64 (S.wcode i m)) ∧ DiskOk (Ext R w w') w' p (S.wrote i s) ∧ FrD R w w' := by
  subst hm
  have hn : FrD R w w := Fr.refl _ _
  unfold DS.wrote
  unfold DS.wcode
  by_cases h1 : i < 0 ∨ (S.now.length : Int) ≤ i ∨ s.length ≠ 64
  · rw [if_pos h1]
    refine (Write_bad i _ _ c h h1).mono ?_
    rintro e w' ⟨rfl, rfl⟩
    exact ⟨rfl, h.ext (Nat.le_refl _) h, hn⟩
  · rw [if_neg h1]
    have hl : s.length = 64 := by omega
    by_cases h2 : S.dead = true
    · rw [if_pos h2]
      rw [hl]
      refine (Write_dead i _ c h (by omega) (by omega) h2).mono ?_
      rintro e w' ⟨rfl, rfl⟩
      exact ⟨rfl, h.ext (Nat.le_refl _) h, hn⟩
    · rw [if_neg h2]
      obtain ⟨k, rfl⟩ := Int.eq_ofNat_of_zero_le (show 0 ≤ i by omega)
      rw [hl]
      refine (Write_goodD k ⟨g, 0, none⟩ c s h (by omega) (by simpa using h2) hl hc hg hwl).mono ?_
      rintro e w' ⟨rfl, hd, hf⟩
      exact ⟨rfl, by rw [if_pos rfl, Int.toNat_natCast]; exact hd, hf⟩

theorem Flush_any (h : DiskOk R w p S) (hwl : S.waits.length < 4000000000) :
    Calls Tryz.prog 42 #[.pointer (some ⟨p, 0, none⟩)] w fun e w' => e = .returned (.int .i64 S.fcode) ∧ DiskOk R w' p S.flushed ∧ FrD R w w' := by
  unfold DS.fcode DS.flushed
  by_cases h2 : S.dead = true
  · rw [if_pos h2, if_pos h2]
    refine (Flush_dead h h2).mono ?_
    rintro e w' ⟨rfl, rfl⟩
    exact ⟨rfl, h, Fr.refl _ _⟩
  · rw [if_neg h2, if_neg h2]
    exact Flush_goodD h (by simpa using h2) hwl
theorem DiskOk.more {R R' : Nat → Prop} {w : World} {p : Nat} {S : DS} (h : DiskOk R w p S) (hr : ∀ b, R b → R' b) (hl : ∀ b, R' b → b < w.heap.size) : DiskOk R' w p S := by
  obtain ⟨nb, lb, nv, lv, wv, ws, h⟩ := h
  exact ⟨nb, lb, nv, lv, wv, ws, h.more hr hl⟩
end
end Go.Proofs.YtccmmnacejdeoaaGreatDoor

/-
  A disk whose fuse is not lit.
-/
namespace Go.Proofs.YtccmmnacejdeoaaGreatDoor
set_option linter.unusedSimpArgs false
set_option linter.unusedVariables false
open Go.RowKit

theorem DiskOk.small {R : Nat → Prop} {w : World} {p : Nat} {S : DS} (h : DiskOk R w p S) : S.now.length ≤ 65536 := by
  obtain ⟨nb, lb, nv, lv, wv, ws, h⟩ := h
  exact h.small
/-- A disk that nothing threatens: what is read is what lasts with what waits. -/
structure Calm (S : DS) : Prop where
  fuse : S.fuse = -1
  dead : S.dead = false
  sum : setAll S.last S.waits = S.now
theorem Calm.new (n : Nat) : Calm (DS.new n) := ⟨rfl, rfl, rfl⟩
theorem Calm.wr_eq {S : DS} (h : Calm S) (i : Nat) (s : List UInt8) : S.wr i s = S.wr0 i s := by
  unfold DS.wr DS.burn
  rw [if_neg (by show ¬ 0 < S.fuse; rw [h.fuse]; omega)]
theorem Calm.wr {S : DS} (h : Calm S) (i : Nat) (s : List UInt8) : Calm (S.wr i s) := by
  rw [h.wr_eq]
  refine ⟨h.fuse, h.dead, ?_⟩
  show setAll S.last (S.waits ++ [(i, s)]) = S.now.set i s
  rw [setAll_snoc, h.sum]
theorem Calm.wr_now {S : DS} (h : Calm S) (i : Nat) (s : List UInt8) : (S.wr i s).now = S.now.set i s := by
  rw [h.wr_eq]; rfl
theorem Calm.flushed_eq {S : DS} (h : Calm S) : S.flushed = { S with last := S.now, waits := [] } := by
  unfold DS.flushed
  rw [if_neg (by rw [h.dead]; decide)]
  unfold DS.flush DS.burn
  rw [if_neg (by show ¬ 0 < S.fuse; rw [h.fuse]; omega)]
  unfold DS.flush0
  rw [h.sum]
theorem Calm.flushed {S : DS} (h : Calm S) : Calm S.flushed := by
  rw [h.flushed_eq]
  exact ⟨h.fuse, h.dead, rfl⟩
theorem chosen_nil0 {β : Type} (keep : List Int) : chosen keep ([] : List β) = [] := rfl
/-- A crash of a disk on which nothing waits. -/
theorem Calm.crash {S : DS} (h : Calm S) (hw : S.waits = []) (keep : List Int) : S.crash keep = S := by
  have hs := h.sum
  rw [hw] at hs
  have hl : S.last = S.now := hs
  unfold DS.crash
  rw [hw, chosen_nil0, setAll_nil, hl]
  have h1 := h.fuse
  have h2 := h.dead
  cases S
  simp_all
end Go.Proofs.YtccmmnacejdeoaaGreatDoor

/-
  Waiting: what a disk tells of its writes.
-/
namespace Go.Proofs.YtccmmnacejdeoaaGreatDoor
set_option linter.unusedSimpArgs false
set_option linter.unusedVariables false
open Go.RowKit
section
variable {R : Nat → Prop} {w : World} {p : Nat} {S : DS}
theorem Waiting_any (h : DiskOk R w p S) : Calls Tryz.prog 41 #[.pointer (some ⟨p, 0, none⟩)] w fun e w' => e = .returned (.int .i64 S.waits.length) ∧ w = w' := by
  obtain ⟨nb, lb, nv, lv, wv, ws, h⟩ := h
  obtain ⟨h0, h1, h2, h3, h4, h5⟩ := h.cells
  rw [← h.waits.1]
  obtain ⟨A, c, rfl⟩ : ∃ A c, wv = .slice A ws.length c := by
    rcases h.own.2 with ⟨e, e2⟩ | ⟨g, cap, cur, e, _⟩
    · rw [e2]; exact ⟨_, _, e⟩
    · exact ⟨_, _, e⟩
  go_enter Tryz.func41, Tryz.ntmps41
  go_wp2
  go_ret
  exact ⟨rfl, rfl⟩
end
end Go.Proofs.YtccmmnacejdeoaaGreatDoor

/-
  Rows of bytes that can be read.
-/
namespace Go.Proofs.YtccmmnacejdeoaaGreatDoor
set_option linter.unusedSimpArgs false
set_option linter.unusedVariables false
open Go.RowKit

/-- A row of bytes that can be read. -/
def BytesIn (w : World) (A : Option Addr) (l : List UInt8) : Prop := 0 < l.length → ∃ g o, A = some ⟨g, o, none⟩ ∧ ∀ (j : Nat) x, l[j]? = some x → w.cell? ⟨g, o + j, none⟩ = some (.int .u8 x.toNat)
theorem wrap_u64' (x : Int) : IntKind.u64.wrap x = x % 18446744073709551616 := by
  simp [IntKind.wrap, IntKind.signed, IntKind.bits]
theorem bytesIn_of {w : World} {g : Nat} {t : List UInt8} (h : Blk w g 5 (bts t).toArray) : BytesIn w (some ⟨g, 0, none⟩) t := fun _ =>
  ⟨g, 0, rfl, fun j x hx => by rw [Nat.zero_add, h.cell j, List.getElem?_toArray, bts_get, hx]; rfl⟩
theorem bytesIn_part {w : World} {g : Nat} {t : List UInt8} (h : Blk w g 5 (bts t).toArray) (o n : Nat) : BytesIn w (some ⟨g, o, none⟩) ((t.drop o).take n) := fun _ =>
  ⟨g, o, rfl, fun j x hx => by
    rw [List.getElem?_take] at hx
    split at hx
    · rw [List.getElem?_drop] at hx
      rw [h.cell, List.getElem?_toArray, bts_get, hx]; rfl
    · cases hx⟩
theorem BytesIn.fr {F : Nat → Prop} {w w' : World} {A : Option Addr} {l : List UInt8} (h : BytesIn w A l) (hf : Fr F w w') (hA : ∀ a, A = some a → ¬ F a.block) : BytesIn w' A l := fun h0 => by
  obtain ⟨g, o, rfl, hc⟩ := h h0
  exact ⟨g, o, rfl, fun j x hx => (hf.cell (p := ⟨g, o + j, none⟩) (cell_lt (hc j x hx)) (hA ⟨g, o, none⟩ rfl)).trans (hc j x hx)⟩
theorem BytesIn.new {w w' : World} {A : Option Addr} {l : List UInt8} (h : BytesIn w A l) (hf : Fr Nob w w') : BytesIn w' A l := h.fr hf (fun _ _ h => h)
theorem conv_in {w : World} {A : Option Addr} {l : List UInt8} (h : BytesIn w A l) (c : Nat) : (convert 38 9 (.slice A l.length c)).run Tryz.prog w = .ok (.string ⟨l.toArray⟩) w := by
  rcases Nat.eq_zero_or_pos l.length with h0 | h0
  · obtain rfl : l = [] := List.eq_nil_of_length_eq_zero h0
    exact (run_convert_bytes_zero w 38 5 Tryz.underlying38 Tryz.underlying5 A c) 9 Tryz.underlying9
  · obtain ⟨g, o, rfl, hc⟩ := h h0
    refine run_convert_bytes_back (P := Tryz.prog) w 38 9 5 ⟨g, o, none⟩ c l Tryz.underlying38 Tryz.underlying5 Tryz.underlying9 (fun j hj => ?_)
    rw [show (⟨g, o, none⟩ : Addr).add j = ⟨g, o + j, none⟩ from by simp [Addr.add]]
    exact hc j _ (List.getElem?_eq_getElem hj)
theorem bytesIn_cells {w : World} {g o : Nat} {l : List UInt8} (h : BytesIn w (some ⟨g, o, none⟩) l) (j : Nat) (u : Value) (hu : (bts l)[j]? = some u) : w.cell? ((⟨g, o, none⟩ : Addr).add j) = some u := by
  rw [bts_get] at hu
  obtain ⟨x, hx, rfl⟩ := Option.map_eq_some_iff.1 hu
  have hl : 0 < l.length := by have := (List.getElem?_eq_some_iff.1 hx).1; omega
  obtain ⟨g', o', e, hc⟩ := h hl
  injection e with e
  injection e with e1 e2
  subst e1 e2
  rw [show (⟨g, o, none⟩ : Addr).add j = ⟨g, o + j, none⟩ from by simp [Addr.add]]
  exact hc j x hx
/-- Where a cut of a slice at k lies, its capacity c. -/
def cutA (g o k c : Nat) : Addr := if c = k then ⟨g, o, none⟩ else ⟨g, o + k, none⟩
theorem cutA_block (g o k c : Nat) : (cutA g o k c).block = g := by unfold cutA; split <;> rfl
theorem cutA_eq (g o k c : Nat) : (if c = k then some (⟨g, o, none⟩ : Addr) else some ⟨g, o + k, none⟩) = some (cutA g o k c) := by unfold cutA; split <;> rfl
theorem bytesIn_cut {w : World} {g o : Nat} {l : List UInt8} (h : BytesIn w (some ⟨g, o, none⟩) l) (k n c : Nat) (hc : l.length ≤ c) (hn : k + n ≤ l.length) : BytesIn w (some (cutA g o k c)) ((l.drop k).take n) := by
  intro h0
  rw [List.length_take, List.length_drop] at h0
  obtain ⟨g', o', e, hcs⟩ := h (by omega)
  injection e with e
  injection e with e1 e2
  subst e1 e2
  unfold cutA
  rw [if_neg (by omega)]
  refine ⟨g, o + k, rfl, fun j x hx => ?_⟩
  rw [List.getElem?_take] at hx
  split at hx
  · rw [List.getElem?_drop] at hx
    rw [Nat.add_assoc]
    exact hcs _ x hx
  · cases hx
theorem bytesIn_drop {w : World} {g o : Nat} {l : List UInt8} (h : BytesIn w (some ⟨g, o, none⟩) l) (k c : Nat) (hc : l.length ≤ c) (hk : k ≤ l.length) : BytesIn w (some (cutA g o k c)) (l.drop k) := by
  have := bytesIn_cut h k (l.length - k) c hc (by omega)
  rwa [List.take_of_length_le (by rw [List.length_drop]; omega)] at this
theorem bytesIn_own {w : World} {base g n cap : Nat} {l : List UInt8} (h : w.ownsRow base 5 1 (.slice (some ⟨g, 0, none⟩) n cap) n (bts l)) : BytesIn w (some ⟨g, 0, none⟩) l := by
  intro h0
  rcases h.2 with ⟨e, _⟩ | ⟨g', cap', cur, e, _, hh, _, _, _, ht⟩
  · cases e
  · injection e with e _ _
    injection e with e
    injection e with e _
    subst e
    refine ⟨g, 0, rfl, fun j x hx => ?_⟩
    have hb : (bts l)[j]? = some (.int .u8 x.toNat) := by rw [bts_get, hx]; rfl
    rw [← ht, List.getElem?_take] at hb
    split at hb
    · rw [Nat.zero_add, Blk.cell hh j, ← Array.getElem?_toList]; exact hb
    · cases hb
theorem bytesIn_take {w : World} {A : Option Addr} {l : List UInt8} (h : BytesIn w A l) (n : Nat) : BytesIn w A (l.take n) := by
  intro h0
  rw [List.length_take] at h0
  obtain ⟨g, o, e, hc⟩ := h (by omega)
  refine ⟨g, o, e, fun j x hx => ?_⟩
  rw [List.getElem?_take] at hx
  split at hx
  · exact hc j x hx
  · cases hx
theorem bytesIn_lit (w : World) (t : List UInt8) (fz : Nat × Nat) : BytesIn (w.alloc (.cells (bts t).toArray 5 fz)) (some ⟨w.heap.size, 0, none⟩) t := fun _ =>
  ⟨_, 0, rfl, fun j x hx => by
    have hh : (w.alloc (.cells (bts t).toArray 5 fz)).heap[w.heap.size]? = some (.cells (bts t).toArray 5 fz) := by
      show (w.heap.push _)[w.heap.size]? = _
      simp
    rw [Nat.zero_add]
    unfold World.cell?
    rw [hh]
    show (bts t).toArray[j]? = _
    rw [List.getElem?_toArray, bts_get, hx]; rfl⟩
end Go.Proofs.YtccmmnacejdeoaaGreatDoor

/-
  Numbers as bytes, and parts of rows that were spliced (plain).
-/
namespace Go.Proofs.YtccmmnacejdeoaaGreatDoor
set_option linter.unusedSimpArgs false
set_option linter.unusedVariables false
open Go.RowKit

/-- One byte more. -/
theorem or_byte (y b : Nat) (hb : b < 256) : bits .or .u64 (IntKind.u64.wrap ((y : Int) * 256)) (IntKind.u64.wrap (b : Int)) = (((y * 256 + b) % 18446744073709551616 : Nat) : Int) := by
  have e1 : IntKind.u64.wrap ((y : Int) * 256) = ((y % 72057594037927936 * 256 : Nat) : Int) := by rw [wrap_u64']; omega
  have e2 : IntKind.u64.wrap (b : Int) = (b : Int) := by rw [wrap_u64']; omega
  rw [e1, e2]
  show IntKind.u64.wrap (((BitVec.ofInt 64 ((y % 72057594037927936 * 256 : Nat) : Int) ||| BitVec.ofInt 64 (b : Int)).toNat : Nat) : Int) = _
  have h1 : (BitVec.ofInt 64 ((y % 72057594037927936 * 256 : Nat) : Int)).toNat = y % 72057594037927936 * 256 := by
    rw [BitVec.toNat_ofInt]; omega
  have h2 : (BitVec.ofInt 64 (b : Int)).toNat = b := by rw [BitVec.toNat_ofInt]; omega
  rw [BitVec.toNat_or, h1, h2]
  have h3 : y % 72057594037927936 * 256 ||| b = y % 72057594037927936 * 256 + b := by
    have := Nat.shiftLeft_add_eq_or_of_lt (b := b) (i := 8) (by omega) (y % 72057594037927936)
    rw [Nat.shiftLeft_eq] at this
    exact this.symm
  rw [h3, wrap_u64']
  omega
def getN (l : List UInt8) : Nat := l.foldl (fun x c => (x * 256 + c.toNat) % 18446744073709551616) 0
theorem getN_snoc (l : List UInt8) (c : UInt8) : getN (l ++ [c]) = (getN l * 256 + c.toNat) % 18446744073709551616 := by simp [getN]
theorem getN_lt (l : List UInt8) : getN l < 18446744073709551616 := by
  rcases List.eq_nil_or_concat l with rfl | ⟨l, c, rfl⟩
  · simp [getN]
  · rw [List.concat_eq_append, getN_snoc]; omega
theorem getN_take (l : List UInt8) (k : Nat) (h : k < l.length) : getN (l.take (k + 1)) = (getN (l.take k) * 256 + l[k].toNat) % 18446744073709551616 := by
  rw [← getN_snoc, List.take_add_one, List.getElem?_eq_getElem h]; rfl

/-- A number's low bytes, the greatest first. -/
def putB (n : Nat) (x : Nat) : List UInt8 := (List.range n).map fun j => UInt8.ofNat (x / 256 ^ (n - 1 - j) % 256)
theorem putB_length (n x : Nat) : (putB n x).length = n := by simp [putB]

theorem splice_get {α : Type} (L cs : List α) (o i : Nat) (h : o + cs.length ≤ L.length) : (splice L o cs)[i]? = if i < o then L[i]? else if i < o + cs.length then cs[i - o]? else L[i]? := by
  unfold splice
  have hl : (L.take o).length = o := by rw [List.length_take]; omega
  by_cases h1 : i < o
  · rw [if_pos h1, List.getElem?_append_left (by rw [hl]; exact h1), List.getElem?_take_of_lt h1]
  · rw [if_neg h1, List.getElem?_append_right (by rw [hl]; omega), hl]
    by_cases h2 : i < o + cs.length
    · rw [if_pos h2, List.getElem?_append_left (by omega)]
    · rw [if_neg h2, List.getElem?_append_right (by omega), List.getElem?_drop, show o + cs.length + (i - o - cs.length) = i from by omega]
theorem putB_get (n x j : Nat) (h : j < n) : (putB n x)[j]? = some (UInt8.ofNat (x / 256 ^ (n - 1 - j) % 256)) := by
  unfold putB
  rw [List.getElem?_map, List.getElem?_range h]; rfl
/-- One more of the last k of a splice. -/
theorem splice_step {α : Type} (L P : List α) (o k : Nat) (v : α) (hk : k < P.length) (h : o + P.length ≤ L.length) (hv : P[P.length - 1 - k]? = some v) :
    (splice L (o + P.length - k) (P.drop (P.length - k))).set (o + (P.length - 1 - k)) v = splice L (o + P.length - (k + 1)) (P.drop (P.length - (k + 1))) := by
  apply List.ext_getElem?
  intro i
  have e1 : (P.drop (P.length - k)).length = k := by rw [List.length_drop]; omega
  have e2 : (P.drop (P.length - (k + 1))).length = k + 1 := by rw [List.length_drop]; omega
  have f1 : o + P.length - k + (P.drop (P.length - k)).length ≤ L.length := by rw [e1]; omega
  have f2 : o + P.length - (k + 1) + (P.drop (P.length - (k + 1))).length ≤ L.length := by rw [e2]; omega
  rw [List.getElem?_set, splice_get _ _ _ _ f2, splice_get _ _ _ _ f1, length_splice _ _ _ f1, e1, e2]
  by_cases hi : o + (P.length - 1 - k) = i
  · subst hi
    rw [if_pos rfl, if_pos (by omega), if_neg (by omega), if_pos (by omega), List.getElem?_drop, ← hv]
    congr 1
    omega
  · rw [if_neg hi]
    by_cases h1 : i < o + P.length - (k + 1)
    · rw [if_pos (by omega), if_pos h1]
    · by_cases h2 : i < o + P.length
      · rw [if_neg (by omega), if_pos (by omega), if_neg h1, if_pos (by omega), List.getElem?_drop, List.getElem?_drop]
        congr 1
        omega
      · rw [if_neg (by omega), if_neg (by omega), if_neg h1, if_neg (by omega)]
theorem putB_at (n x k : Nat) (hk : k < n) : (bts (putB n x))[(bts (putB n x)).length - 1 - k]? = some (.int .u8 ((x : Int) / 2 ^ (8 * k) % 256)) := by
  rw [bts_length, putB_length, bts_get, putB_get _ _ _ (by omega), show n - 1 - (n - 1 - k) = k from by omega]
  have h256 : (2 : Nat) ^ (8 * k) = 256 ^ k := by rw [Nat.pow_mul]
  have hv : (x : Int) / 2 ^ (8 * k) % 256 = (((x / 256 ^ k % 256 : Nat)) : Int) := by
    rw [← h256]; simp
  rw [hv]
  simp
theorem bts_splice (L cs : List UInt8) (o : Nat) : bts (splice L o cs) = splice (bts L) o (bts cs) := by
  simp [splice, bts, List.map_take, List.map_drop]

def zeros (n : Nat) : List UInt8 := List.replicate n 0
theorem zeros_length (n : Nat) : (zeros n).length = n := by simp [zeros]
theorem bts_set (L : List UInt8) (i : Nat) (x : UInt8) : (bts L).toArray.setIfInBounds i (.int .u8 x.toNat) = (bts (L.set i x)).toArray := by
  rw [List.setIfInBounds_toArray]; simp [bts, List.map_set]

theorem wrap_nat {n : Nat} (h : n < 18446744073709551616) : IntKind.u64.wrap (n : Int) = n := by rw [wrap_u64']; omega
theorem putB_snoc (n x : Nat) : putB (n + 1) x = putB n (x / 256) ++ [UInt8.ofNat (x % 256)] := by
  apply List.ext_getElem?
  intro j
  by_cases h : j < n
  · rw [putB_get _ _ _ (by omega), List.getElem?_append_left (by rw [putB_length]; exact h), putB_get _ _ _ h]
    rw [Nat.div_div_eq_div_mul, ← Nat.pow_succ', show n + 1 - 1 - j = (n - 1 - j).succ from by omega]
  · by_cases e : j = n
    · subst e
      rw [putB_get _ _ _ (by omega), List.getElem?_append_right (by rw [putB_length]; omega), putB_length]
      simp
    · rw [List.getElem?_eq_none (by rw [putB_length]; omega), List.getElem?_eq_none (by rw [List.length_append, putB_length]; simp; omega)]
theorem getN_putB : ∀ (n x : Nat), n ≤ 8 → getN (putB n x) = x % 256 ^ n
  | 0, x, _ => by simp [putB, getN, Nat.mod_one]
  | n + 1, x, h => by
    rw [putB_snoc, getN_snoc, getN_putB n _ (by omega), UInt8.toNat_ofNat']
    have h1 : 256 ^ (n + 1) = 256 ^ n * 256 := Nat.pow_succ ..
    have h2 : 256 ^ (n + 1) ≤ 256 ^ 8 := Nat.pow_le_pow_right (by omega) h
    have h3 : 256 ^ 8 = 18446744073709551616 := by decide
    have h4 : x % 256 ^ (n + 1) = x / 256 % 256 ^ n * 256 + x % 256 := by
      rw [Nat.pow_succ', Nat.mod_mul, Nat.add_comm, Nat.mul_comm]
    have h5 := Nat.mod_lt x (show 0 < 256 ^ (n + 1) from Nat.pow_pos (by omega))
    rw [h4] at h5 ⊢
    omega

section
variable {α : Type}
/-- A part that lies apart from what was spliced in. -/
theorem splice_apart (L cs : List α) (o p n : Nat) (h : o + cs.length ≤ L.length) (ha : p + n ≤ o ∨ o + cs.length ≤ p) : ((splice L o cs).drop p).take n = (L.drop p).take n := by
  apply List.ext_getElem?
  intro j
  rw [List.getElem?_take, List.getElem?_take]
  split
  · rw [List.getElem?_drop, List.getElem?_drop, splice_get _ _ _ _ h]
    rcases ha with ha | ha
    · rw [if_pos (by omega)]
    · rw [if_neg (by omega), if_neg (by omega)]
  · rfl
theorem splice_self (L cs : List α) (o : Nat) (h : o + cs.length ≤ L.length) : ((splice L o cs).drop o).take cs.length = cs := by
  apply List.ext_getElem?
  intro j
  rw [List.getElem?_take]
  split
  · rw [List.getElem?_drop, splice_get _ _ _ _ h, if_neg (by omega), if_pos (by omega)]
    congr 1; omega
  · rw [List.getElem?_eq_none (by omega)]
theorem splice_at (L cs : List α) (o i : Nat) (h : o + cs.length ≤ L.length) (ha : i < o ∨ o + cs.length ≤ i) : (splice L o cs)[i]? = L[i]? := by
  rw [splice_get _ _ _ _ h]
  rcases ha with ha | ha
  · rw [if_pos ha]
  · rw [if_neg (by omega), if_neg (by omega)]
theorem set_apart (L : List α) (i p n : Nat) (v : α) (h : i < p ∨ p + n ≤ i) : ((L.set i v).drop p).take n = (L.drop p).take n := by
  apply List.ext_getElem?
  intro j
  rw [List.getElem?_take, List.getElem?_take]
  split
  · rw [List.getElem?_drop, List.getElem?_drop, List.getElem?_set_ne (by omega)]
  · rfl
end

end Go.Proofs.YtccmmnacejdeoaaGreatDoor

/-
  Numbers as bytes: get, put.
-/
namespace Go.Proofs.YtccmmnacejdeoaaGreatDoor
set_option linter.unusedSimpArgs false
set_option linter.unusedVariables false
open Go.RowKit

set_option maxRecDepth 100000 in
theorem get_any (A : Option Addr) (c : Nat) (l : List UInt8) (w : World) (h : BytesIn w A l) (hl : l.length ≤ 4000000000) :
    Calls Tryz.prog 67 #[.slice A l.length c] w fun e w' => e = .returned (.int .u64 (getN l)) ∧ w = w' := by
  have H := Lib.hid h
  clear h
  go_enter Tryz.func67, Tryz.ntmps67
  go_wp2
  go_loopw [3, 5, 8] (fun x _ i wr => ∃ k : Nat, k ≤ l.length ∧ i = .int .i64 k ∧ x = .int .u64 (getN (l.take k)) ∧ w = wr) (fun _ _ i _ => l.length - (intOf i).toNat)
  case atStart => exact ⟨0, by omega, rfl, by simp [getN], rfl⟩
  case round =>
    obtain ⟨k, hk, rfl, rfl, rfl⟩ := hrel
    by_cases hlt : k < l.length
    · obtain ⟨g, o, hA, hc⟩ := H.out (by omega)
      subst hA
      have c0 := hc k _ (List.getElem?_eq_getElem hlt)
      clear hc
      have hs := getN_take l k hlt
      have HS : Hid (bits .or .u64 (IntKind.u64.wrap ((getN (l.take k) : Nat) * 256 : Int)) (IntKind.u64.wrap ((l[k].toNat : Nat) : Int)) = ((getN (l.take (k + 1)) : Nat) : Int)) := by
        show _ = _
        rw [hs]; exact or_byte _ _ (UInt8.toNat_lt _)
      clear hs
      generalize l[k] = b at *
      go_wp2
      go_roundw
      case rel => exact ⟨k + 1, by omega, by go_num, by rw [HS.out], by trivial⟩
      case measure => simp [intOf]; omega
    · obtain rfl : k = l.length := by omega
      rw [List.take_length]
      go_wp2
      go_ret
      exact ⟨rfl, rfl⟩

set_option maxRecDepth 100000 in
theorem put_at (g o n c : Nat) (cs : List Value) (x : Nat) (w : World) (hb : Blk w g 5 cs.toArray) (ho : o + n ≤ cs.length) (hx : x < 18446744073709551616) (hn : n ≤ 8) :
    Calls Tryz.prog 90 #[.slice (some ⟨g, o, none⟩) n c, .int .u64 x] w fun e w' => e = .returned (.tuple #[]) ∧ Blk w' g 5 (splice cs o (bts (putB n x))).toArray ∧ Fr (fun b => b = g) w w' := by
  obtain ⟨P, hP⟩ : ∃ P, bts (putB n x) = P := ⟨_, rfl⟩
  have hat := fun k hk => putB_at n x k hk
  have hPl : P.length = n := by rw [← hP, bts_length, putB_length]
  rw [hP] at hat ⊢
  have H : Hid (Blk w g 5 (splice cs (o + P.length - 0) (P.drop (P.length - 0))).toArray) := by
    show Blk _ _ _ _
    rw [Nat.sub_zero, Nat.sub_zero, List.drop_length]
    unfold splice
    rw [List.length_nil, Nat.add_zero, List.nil_append, List.take_append_drop]; exact hb
  have HAt := Lib.hid hat
  have HPl := Lib.hid hPl
  clear hb hat hP hPl
  go_enter Tryz.func90, Tryz.ntmps90
  go_wp2
  go_loopw [4, 7] (fun _ i wr => ∃ k : Nat, k ≤ n ∧ i = .int .i64 k ∧ Hid (Blk wr g 5 (splice cs (o + P.length - k) (P.drop (P.length - k))).toArray) ∧ Hid (Fr (fun b => b = g) w wr)) (fun _ i _ => n - (intOf i).toNat)
  case atStart => exact ⟨0, by omega, rfl, H, Fr.refl _ _⟩
  case round =>
    clear H
    obtain ⟨k, hk, rfl, hB, hF⟩ := hrel
    by_cases hlt : k < n
    · have hl1 : (splice cs (o + P.length - k) (P.drop (P.length - k))).length = cs.length := by
        have := HPl.out
        exact length_splice _ _ _ (by rw [List.length_drop]; omega)
      have HS : Hid (Blk (wr.setCell ⟨g, o + (n - 1 - k), none⟩ (.int .u8 ((x : Int) / 2 ^ (8 * k) % 256))) g 5 (splice cs (o + P.length - (k + 1)) (P.drop (P.length - (k + 1)))).toArray) := by
        show Blk _ _ _ _
        have h1 := HPl.out
        have h2 := HAt.out k hlt
        rw [← splice_step cs P o k _ (by omega) (by omega) h2]
        have := hB.out.set_ (o + (n - 1 - k)) (.int .u8 ((x : Int) / 2 ^ (8 * k) % 256))
        rw [List.setIfInBounds_toArray] at this
        rw [h1]
        rwa [h1] at this
      obtain ⟨v0, c0⟩ : ∃ v, wr.cell? ⟨g, o + (n - 1 - k), none⟩ = some v := by
        rw [hB.out.cell]
        exact ⟨_, by rw [List.getElem?_toArray]; exact List.getElem?_eq_getElem (by omega)⟩
      have f0 := hB.out.frozen (o + (n - 1 - k))
      clear hl1
      go_wp2
      go_roundw
      case rel => exact ⟨k + 1, by omega, by go_num, HS, hF.out.setCell (p := ⟨g, o + (n - 1 - k), none⟩) (.inr rfl) _⟩
      case measure => simp [intOf]; omega
    · obtain rfl : k = n := by omega
      go_wp2
      go_end0
      have hfin := hB.out
      rw [HPl.out, Nat.add_sub_cancel, Nat.sub_self, List.drop_zero] at hfin
      exact ⟨rfl, hfin, hF.out⟩

theorem put_any (g o n c : Nat) (t : List UInt8) (x : Nat) (w : World) (hb : Blk w g 5 (bts t).toArray) (ho : o + n ≤ t.length) (hx : x < 18446744073709551616) (hn : n ≤ 8) :
    Calls Tryz.prog 90 #[.slice (some ⟨g, o, none⟩) n c, .int .u64 x] w fun e w' => e = .returned (.tuple #[]) ∧ Blk w' g 5 (bts (splice t o (putB n x))).toArray ∧ Fr (fun b => b = g) w w' := by
  rw [bts_splice]
  exact put_at g o n c (bts t) x w hb (by rw [bts_length]; exact ho) hx hn
end Go.Proofs.YtccmmnacejdeoaaGreatDoor
