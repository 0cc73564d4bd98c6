/-
  Rows of bytes that can be read.
-/
import Derived.Test.YtidohbhcjnmmeaaDoorProg
import Derived.Test.YtidohbhcjnmmeaaDoorBase
import Derived.Laws.CopyOwn
import Derived.WalkKit
import Derived.WalkSpells
import Derived.WalkLawsBesides
import Derived.Laws.BytesArg
import Derived.Shelf.Bytes.SlSmallAll
import Derived.RangeFuncOwn
import Derived.Laws.Entries
namespace Go.Proofs.YtidohbhcjnmmeaaDoor
set_option linter.unusedSimpArgs false
set_option linter.unusedVariables false
open Go.RowKit

/-- A row of bytes that can be read. -/
def BytesIn (w : World) (A : Option Addr) (l : List UInt8) : Prop := 0 < l.length → ∃ g o, A = some ⟨g, o, none⟩ ∧ ∀ (j : Nat) x, l[j]? = some x → w.cell? ⟨g, o + j, none⟩ = some (.int .u8 x.toNat)
theorem wrap_u64' (x : Int) : IntKind.u64.wrap x = x % 18446744073709551616 := by
  simp [IntKind.wrap, IntKind.signed, IntKind.bits]
theorem bytesIn_of {w : World} {g : Nat} {t : List UInt8} (h : Blk w g 5 (bts t).toArray) : BytesIn w (some ⟨g, 0, none⟩) t := fun _ =>
  ⟨g, 0, rfl, fun j x hx => by rw [Nat.zero_add, h.cell j, List.getElem?_toArray, bts_get, hx]; rfl⟩
theorem bytesIn_part {w : World} {g : Nat} {t : List UInt8} (h : Blk w g 5 (bts t).toArray) (o n : Nat) : BytesIn w (some ⟨g, o, none⟩) ((t.drop o).take n) := fun _ =>
  ⟨g, o, rfl, fun j x hx => by
    rw [List.getElem?_take] at hx
    split at hx
    · rw [List.getElem?_drop] at hx
      rw [h.cell, List.getElem?_toArray, bts_get, hx]; rfl
    · cases hx⟩
theorem BytesIn.fr {F : Nat → Prop} {w w' : World} {A : Option Addr} {l : List UInt8} (h : BytesIn w A l) (hf : Fr F w w') (hA : ∀ a, A = some a → ¬ F a.block) : BytesIn w' A l := fun h0 => by
  obtain ⟨g, o, rfl, hc⟩ := h h0
  exact ⟨g, o, rfl, fun j x hx => (hf.cell (p := ⟨g, o + j, none⟩) (cell_lt (hc j x hx)) (hA ⟨g, o, none⟩ rfl)).trans (hc j x hx)⟩
theorem BytesIn.new {w w' : World} {A : Option Addr} {l : List UInt8} (h : BytesIn w A l) (hf : Fr Nob w w') : BytesIn w' A l := h.fr hf (fun _ _ h => h)
theorem conv_in {w : World} {A : Option Addr} {l : List UInt8} (h : BytesIn w A l) (c : Nat) : (convert 91 9 (.slice A l.length c)).run Tryd.prog w = .ok (.string ⟨l.toArray⟩) w := by
  rcases Nat.eq_zero_or_pos l.length with h0 | h0
  · obtain rfl : l = [] := List.eq_nil_of_length_eq_zero h0
    exact (run_convert_bytes_zero w 91 5 Tryd.underlying91 Tryd.underlying5 A c) 9 Tryd.underlying9
  · obtain ⟨g, o, rfl, hc⟩ := h h0
    refine run_convert_bytes_back (P := Tryd.prog) w 91 9 5 ⟨g, o, none⟩ c l Tryd.underlying91 Tryd.underlying5 Tryd.underlying9 (fun j hj => ?_)
    rw [show (⟨g, o, none⟩ : Addr).add j = ⟨g, o + j, none⟩ from by simp [Addr.add]]
    exact hc j _ (List.getElem?_eq_getElem hj)
theorem bytesIn_cells {w : World} {g o : Nat} {l : List UInt8} (h : BytesIn w (some ⟨g, o, none⟩) l) (j : Nat) (u : Value) (hu : (bts l)[j]? = some u) : w.cell? ((⟨g, o, none⟩ : Addr).add j) = some u := by
  rw [bts_get] at hu
  obtain ⟨x, hx, rfl⟩ := Option.map_eq_some_iff.1 hu
  have hl : 0 < l.length := by have := (List.getElem?_eq_some_iff.1 hx).1; omega
  obtain ⟨g', o', e, hc⟩ := h hl
  injection e with e
  injection e with e1 e2
  subst e1 e2
  rw [show (⟨g, o, none⟩ : Addr).add j = ⟨g, o + j, none⟩ from by simp [Addr.add]]
  exact hc j x hx
/-- Where a cut of a slice at k lies, its capacity c. -/
def cutA (g o k c : Nat) : Addr := if c = k then ⟨g, o, none⟩ else ⟨g, o + k, none⟩
theorem cutA_block (g o k c : Nat) : (cutA g o k c).block = g := by unfold cutA; split <;> rfl
theorem cutA_eq (g o k c : Nat) : (if c = k then some (⟨g, o, none⟩ : Addr) else some ⟨g, o + k, none⟩) = some (cutA g o k c) := by unfold cutA; split <;> rfl
theorem bytesIn_cut {w : World} {g o : Nat} {l : List UInt8} (h : BytesIn w (some ⟨g, o, none⟩) l) (k n c : Nat) (hc : l.length ≤ c) (hn : k + n ≤ l.length) : BytesIn w (some (cutA g o k c)) ((l.drop k).take n) := by
  intro h0
  rw [List.length_take, List.length_drop] at h0
  obtain ⟨g', o', e, hcs⟩ := h (by omega)
  injection e with e
  injection e with e1 e2
  subst e1 e2
  unfold cutA
  rw [if_neg (by omega)]
  refine ⟨g, o + k, rfl, fun j x hx => ?_⟩
  rw [List.getElem?_take] at hx
  split at hx
  · rw [List.getElem?_drop] at hx
    rw [Nat.add_assoc]
    exact hcs _ x hx
  · cases hx
theorem bytesIn_drop {w : World} {g o : Nat} {l : List UInt8} (h : BytesIn w (some ⟨g, o, none⟩) l) (k c : Nat) (hc : l.length ≤ c) (hk : k ≤ l.length) : BytesIn w (some (cutA g o k c)) (l.drop k) := by
  have := bytesIn_cut h k (l.length - k) c hc (by omega)
  rwa [List.take_of_length_le (by rw [List.length_drop]; omega)] at this
theorem bytesIn_own {w : World} {base g n cap : Nat} {l : List UInt8} (h : w.ownsRow base 5 1 (.slice (some ⟨g, 0, none⟩) n cap) n (bts l)) : BytesIn w (some ⟨g, 0, none⟩) l := by
  intro h0
  rcases h.2 with ⟨e, _⟩ | ⟨g', cap', cur, e, _, hh, _, _, _, ht⟩
  · cases e
  · injection e with e _ _
    injection e with e
    injection e with e _
    subst e
    refine ⟨g, 0, rfl, fun j x hx => ?_⟩
    have hb : (bts l)[j]? = some (.int .u8 x.toNat) := by rw [bts_get, hx]; rfl
    rw [← ht, List.getElem?_take] at hb
    split at hb
    · rw [Nat.zero_add, Blk.cell hh j, ← Array.getElem?_toList]; exact hb
    · cases hb
theorem bytesIn_take {w : World} {A : Option Addr} {l : List UInt8} (h : BytesIn w A l) (n : Nat) : BytesIn w A (l.take n) := by
  intro h0
  rw [List.length_take] at h0
  obtain ⟨g, o, e, hc⟩ := h (by omega)
  refine ⟨g, o, e, fun j x hx => ?_⟩
  rw [List.getElem?_take] at hx
  split at hx
  · exact hc j x hx
  · cases hx
theorem bytesIn_lit (w : World) (t : List UInt8) (fz : Nat × Nat) : BytesIn (w.alloc (.cells (bts t).toArray 5 fz)) (some ⟨w.heap.size, 0, none⟩) t := fun _ =>
  ⟨_, 0, rfl, fun j x hx => by
    have hh : (w.alloc (.cells (bts t).toArray 5 fz)).heap[w.heap.size]? = some (.cells (bts t).toArray 5 fz) := by
      show (w.heap.push _)[w.heap.size]? = _
      simp
    rw [Nat.zero_add]
    unfold World.cell?
    rw [hh]
    show (bts t).toArray[j]? = _
    rw [List.getElem?_toArray, bts_get, hx]; rfl⟩
theorem own_slice {w : World} {base n : Nat} {v : Value} {l : List UInt8} (h : w.ownsRow base 5 1 v n (bts l)) : ∃ A c, v = .slice A n c ∧ BytesIn w A l ∧ ∀ a, A = some a → ∃ o : Obj, w.heap[a.block]? = some o ∧ o.isCells = true := by
  have hl := h.1
  rw [bts_length] at hl
  rcases h.2 with ⟨e, e2⟩ | ⟨g, cap, cur, e, _, hh, _⟩
  · exact ⟨none, 0, by rw [e, e2], fun h0 => absurd h0 (by omega), fun a ha => by cases ha⟩
  · subst e
    exact ⟨_, cap, rfl, bytesIn_own h, fun a ha => by injection ha with ha; subst ha; exact ⟨_, hh, rfl⟩⟩
end Go.Proofs.YtidohbhcjnmmeaaDoor
