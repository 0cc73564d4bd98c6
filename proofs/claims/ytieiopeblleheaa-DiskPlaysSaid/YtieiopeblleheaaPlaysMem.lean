/-
  DiskPlays: words for its script and for the two disks.
-/
import Derived.Test.YtieiopeblleheaaDiskAny
import Derived.Test.YtieiopeblleheaaAwake2
namespace Go.Proofs.Ytieiopeblleheaa
set_option linter.unusedSimpArgs false
set_option linter.unusedVariables false
open Go.RowKit

theorem i64_bounds {n : Int} (h : (Lit.int .i64 n).wf = true) : -9223372036854775808 ≤ n ∧ n ≤ 9223372036854775807 := by
  simpa [Lit.wf, IntKind.min, IntKind.max, IntKind.signed, IntKind.bits] using h

structure OpV where
  kind : Int
  i : Int
  n : Int
  short : Bool
  kA : Option Addr
  kc : Nat
  keep : List Int

/-- The script, as it came in. -/
def OpsIn (w : World) (A : Option Addr) (ops : List OpV) : Prop :=
  (∀ x ∈ ops, ((Lit.int .i64 x.n).wf = true) ∧ IntsIn w x.kA x.keep ∧ x.keep.length * 8 ≤ 140737488351232) ∧
  (0 < ops.length → ∃ kb ko, A = some ⟨kb, ko, none⟩ ∧ ∀ (j : Nat) x, ops[j]? = some x →
    w.cell? ⟨kb, ko + j * 5, none⟩ = some (.int .i64 x.kind) ∧ w.cell? ⟨kb, ko + j * 5 + 1, none⟩ = some (.int .i64 x.i) ∧ w.cell? ⟨kb, ko + j * 5 + 2, none⟩ = some (.int .i64 x.n) ∧
    w.cell? ⟨kb, ko + j * 5 + 3, none⟩ = some (.bool x.short) ∧ w.cell? ⟨kb, ko + j * 5 + 4, none⟩ = some (.slice x.kA x.keep.length x.kc))
def opCells (kd i n : Int) (sh : Bool) (kv : Value) : Array Value := #[.int .i64 kd, .int .i64 i, .int .i64 n, .bool sh, kv]

theorem Row64.convm {w : World} {g : Nat} {s : List UInt8} (h : Row64 w g s) (hs : s.length = 64) (m : Nat) (hm : m ≤ 64) :
    (convert 29 9 (.slice (some ⟨g, 0, none⟩) m 64)).run Try.prog w = .ok (.string ⟨(s.take m).toArray⟩) w := by
  refine conv_own (base := 0) ⟨by rw [bts_length, List.length_take]; omega, .inr ⟨g, 64, _, rfl, Nat.zero_le _, h, hm, by decide, by simp [bts_length, hs], ?_⟩⟩
  simp [bts, List.map_take]
theorem Row64.cellsm {w : World} {g : Nat} {s : List UInt8} (h : Row64 w g s) (m : Nat) : ∀ j u, (bts (s.take m))[j]? = some u → w.cell? ((⟨g, 0, none⟩ : Addr).add j) = some u := by
  intro j u hu
  refine World.news_of_block h j u ?_
  rw [bts_get, List.getElem?_take] at hu
  split at hu
  · simpa [bts_get] using hu
  · cases hu
theorem Row64.cell0 {w : World} {g : Nat} {s : List UInt8} (h : Row64 w g s) (hs : s.length = 64) : ∃ x : Int, 0 ≤ x ∧ x < 256 ∧ w.cell? ⟨g, 0, none⟩ = some (.int .u8 x) ∧ w.frozen? ⟨g, 0, none⟩ = false := by
  have hz : 0 < s.length := by omega
  refine ⟨(s[0]'hz).toNat, by omega, by have := (s[0]'hz).toNat_lt; omega, ?_, h.frozen 0⟩
  rw [h.cell 0]
  simp [bts, List.getElem?_eq_getElem hz]

section
variable {w wr : World} {p q : Nat} {S : DS} {X : Nat → Prop}
theorem PlayMem.touch0 {Sq : DS} {g : Nat} (h : PlayMem w wr p q S Sq X) (hg : X g) (v : Value) : PlayMem w (wr.setCell ⟨g, 0, none⟩ v) p q S Sq X :=
  h.touch hg ((Fr.refl (fun b => b = g) wr).setCell (p := ⟨g, 0, none⟩) (.inr rfl) v)
theorem PlayMem.same (h : PlayMem w wr p q S S X) (hg : Good S) (hwl : S.waits.length < 4000000000) :
    Calls Try.prog 30 #[.pointer (some ⟨p, 0, none⟩), .pointer (some ⟨q, 0, none⟩)] wr fun e w' => e = .returned (.bool true) ∧ PlayMem w w' p q S S Nob := by
  have h' := h
  obtain ⟨R, R2, h⟩ := h
  refine (Same_ok h.d h.r hg hwl).mono ?_
  rintro e w' ⟨rfl, hf⟩
  exact ⟨rfl, h'.new hf Nob (fun _ hb => hb.elim)⟩
theorem PlayMem.dReadBad (h : PlayMem w wr p q S S X) (i : Int) (hb : S.wrong i ≠ 0) :
    Calls Try.prog 16 #[.pointer (some ⟨p, 0, none⟩), .int .i64 i] wr fun e w' => e = .returned (.tuple #[.slice none 0 0, .int .i64 (S.wrong i)]) ∧ wr = w' := by
  obtain ⟨R, R2, h⟩ := h
  exact Read_bad i h.d hb
theorem PlayMem.rReadBad (h : PlayMem w wr p q S S X) (i : Int) (hb : S.wrong i ≠ 0) :
    Calls Try.prog 26 #[.pointer (some ⟨q, 0, none⟩), .int .i64 i] wr fun e w' => e = .returned (.tuple #[.string ⟨#[]⟩, .int .i64 (S.wrong i)]) ∧ wr = w' := by
  have hll := h.lens
  obtain ⟨R, R2, h⟩ := h
  unfold DS.wrong at hb ⊢
  by_cases h1 : i < 0 ∨ (S.now.length : Int) ≤ i
  · rw [if_pos h1]
    exact RefRead_bad i h.r (by omega)
  · rw [if_neg h1] at hb ⊢
    by_cases h2 : S.dead = true
    · rw [if_pos h2]
      exact RefRead_dead i h.r (by omega) (by omega) h2
    · rw [if_neg h2] at hb
      exact (hb rfl).elim
theorem PlayMem.good (h : PlayMem w wr p q S S X) (i : Int) (hb : S.wrong i = 0) : ∃ (k : Nat) (s : List UInt8), i = k ∧ S.now[k]? = some s ∧ s.length = 64 ∧ S.dead = false := by
  obtain ⟨R, R2, h⟩ := h
  unfold DS.wrong at hb
  split at hb
  · cases hb
  · split at hb
    · cases hb
    · rename_i h1 h2
      obtain ⟨k, rfl⟩ := Int.eq_ofNat_of_zero_le (show 0 ≤ i by omega)
      have hk : k < S.now.length := by omega
      exact ⟨k, S.now[k], rfl, List.getElem?_eq_getElem hk, h.d.len64 (List.getElem?_eq_getElem hk), by simpa using h2⟩
theorem PlayMem.dRead (h : PlayMem w wr p q S S X) (k : Nat) (s : List UInt8) (hd : S.dead = false) (hs : S.now[k]? = some s) :
    Calls Try.prog 16 #[.pointer (some ⟨p, 0, none⟩), .int .i64 k] wr fun e w' => e = .returned (.tuple #[.slice (some ⟨wr.heap.size, 0, none⟩) 64 64, .int .i64 0]) ∧ Row64 w' wr.heap.size s ∧ Fr Nob wr w' := by
  obtain ⟨R, R2, h⟩ := h
  exact Read_ok k s h.d (by omega) hd (by rw [Int.toNat_natCast]; exact hs)
theorem PlayMem.rRead (h : PlayMem w wr p q S S X) (k : Nat) (s : List UInt8) (hd : S.dead = false) (hg : Good S) (hs : S.now[k]? = some s) (hwl : S.waits.length < 4000000000) :
    Calls Try.prog 26 #[.pointer (some ⟨q, 0, none⟩), .int .i64 k] wr fun e w' => e = .returned (.tuple #[.string ⟨s.toArray⟩, .int .i64 0]) ∧ wr = w' := by
  obtain ⟨R, R2, h⟩ := h
  exact RefRead_good k s h.r hd hg hs hwl
end
theorem DS.lens_wrote (S : DS) (i : Int) (s : List UInt8) : (S.wrote i s).last.length = S.last.length ∧ (S.wrote i s).now.length = S.now.length := by
  unfold DS.wrote
  split
  · unfold DS.wr DS.burn
    split <;> simp [DS.wr0]
  · exact ⟨rfl, rfl⟩
end Go.Proofs.Ytieiopeblleheaa
