/-
  Append: a record put behind the others.
-/
import Derived.Test.YtieiopeblleheaaWalOpen
namespace Go.Proofs.Ytieiopeblleheaa
set_option linter.unusedSimpArgs false
set_option linter.unusedVariables false
open Go.RowKit

section
variable {R : Nat → Prop} {w : World} {p d : Nat} {L : LS}
theorem Append_big (A : Option Addr) (n c : Nat) (hb : 2000 < n) :
    Calls Try.prog 38 #[.pointer (some ⟨p, 0, none⟩), .slice A n c] w fun e w' => e = .returned (.tuple #[.int .u64 0, .int .i64 5]) ∧ w = w' := by
  have t1 : decide ((2000 : Int) < (n : Int)) = true := by simp; omega
  go_enter Try.func38, Try.ntmps38
  go_wp2
  go_ret2
  exact ⟨rfl, rfl⟩
theorem Append_full (A : Option Addr) (n c : Nat) (h : LogOk R w p d L) (hb : n ≤ 2000) (hr : L.room < n + 16) :
    Calls Try.prog 38 #[.pointer (some ⟨p, 0, none⟩), .slice A n c] w fun e w' => e = .returned (.tuple #[.int .u64 0, .int .i64 60]) ∧ w = w' := by
  obtain ⟨lv, rv, h⟩ := h
  have c11 := h.blk.cell 11
  simp only [List.getElem?_toArray, List.getElem?_cons_zero, List.getElem?_cons_succ] at c11
  have hp := h.blk.lt
  clear h
  have t1 : decide ((2000 : Int) < (n : Int)) = false := by rw [decide_eq_false_iff_not]; omega
  have t2 : decide (L.room < (n : Int) + 16) = true := by simpa using hr
  clear hr
  go_enter Try.func38, Try.ntmps38
  go_wp2
  go_ret2
  exact ⟨rfl, rfl⟩
set_option maxHeartbeats 800000 in
set_option maxRecDepth 100000 in
theorem Append_good (a : Addr) (c : Nat) (b : List UInt8) (h : LogOk R w p d L) (hb : BytesIn w (some a) b) (ha : a.block < w.heap.size) (hlen : b.length ≤ 2000) (hr : b.length + 16 ≤ L.room)
    (hll : L.l.length < 4000000000) (hfin : L.fin < 9223372036854775808) (hnext : L.next < 9223372036854775808) (hr1 : L.room ≤ 4611686018427387904) :
    Calls Try.prog 38 #[.pointer (some ⟨p, 0, none⟩), .slice (some a) b.length c] w fun e w' => e = .returned (.tuple #[.int .u64 L.next, .int .i64 0]) ∧ LogOk (Ext R w w') w' p d (L.add b) ∧ Fr R w w' := by
  have HCl := Lib.hid (bytesClone_cut (w := w) a c b hb ha (by omega))
  have H := Lib.hid h
  obtain ⟨lv, rv, h⟩ := h
  have c11 := h.blk.cell 11
  simp only [List.getElem?_toArray, List.getElem?_cons_zero, List.getElem?_cons_succ] at c11
  have hp := h.blk.lt
  clear h hb
  obtain ⟨bl, hbl⟩ : ∃ bl, b.length = bl := ⟨_, rfl⟩
  rw [hbl] at hlen hr HCl ⊢
  have HBl := Lib.hid hbl
  clear hbl
  have t1 : decide ((2000 : Int) < (bl : Int)) = false := by rw [decide_eq_false_iff_not]; omega
  have t2 : decide (L.room < (bl : Int) + 16) = false := by rw [decide_eq_false_iff_not]; omega
  go_enter Try.func38, Try.ntmps38
  go_wp2_with fail
  refine HCl.out.mono ?_
  rintro e w7 ⟨g7, cap7, rfl, ho7, hf7⟩
  have hz7 := hf7.size
  have hl7 := ho7.lt g7 rfl
  have hL7 : LogOk (Ext R w w7) w7 p d L := (H.out.new hf7).more (fun y hy => .inl hy) (fun y hy => by
    rcases hy with hy | hy
    · have := H.out.lt hy; omega
    · exact hy.2)
  have hrec : RecIn (Ext R w w7) w7 (.slice (some ⟨g7, 0, none⟩) b.length cap7) b := by
    refine ⟨by rw [HBl.out]; exact own_base ho7 (fun _ _ => Nat.zero_le _), fun y hy => ?_⟩
    have : y = g7 := by simpa [Value.ownBlock] using hy.symm
    subst this
    exact .inr ⟨by omega, hl7.2⟩
  have had := add_any (some ⟨g7, 0, none⟩) cap7 b hL7 (by simp) hrec (by omega) (by rw [HBl.out]; omega) (by omega) (by rw [HBl.out]; omega) (by omega) (by omega)
  rw [HBl.out] at had
  have HAd := Lib.hid had
  clear had hrec hL7 ho7 hl7
  go_wp2_with fail
  refine HAd.out.mono ?_
  rintro e w8 ⟨rfl, hl8, hf8⟩
  have hz8 := hf8.size
  have HF8 : Hid (Fr R w w8) := (hf7.mono (G := R) (fun _ _ h => h.elim)).step hf8 (fun i hi h => by rcases h with h | h; exact h; omega)
  have HL8 : Hid (LogOk (Ext R w w8) w8 p d (L.add b)) := hl8.more (fun y hy => by
    rcases hy with (hy | hy) | hy
    · exact .inl hy
    · exact .inr ⟨hy.1, by omega⟩
    · exact .inr ⟨by omega, hy.2⟩) (fun y hy => by
    rcases hy with hy | hy
    · have := H.out.lt hy; omega
    · exact hy.2)
  obtain ⟨lv2, rv2, h2⟩ := HL8.out
  have c4 := h2.blk.cell 4
  simp only [List.getElem?_toArray, List.getElem?_cons_zero, List.getElem?_cons_succ] at c4
  rw [show (L.add b).next = L.next + 1 from rfl] at c4
  have hp8 := h2.blk.lt
  have e5 : ((L.next + 1 : Nat) : Int) - 1 = (L.next : Int) := by omega
  clear h2 hl8 hf8 hf7
  go_wp2
  go_ret2
  exact ⟨rfl, HL8.out, HF8.out⟩

/-- All boxes the log, and hands back its closure. -/
theorem All_any (h : LogOk R w p d L) : Calls Try.prog 54 #[.pointer (some ⟨p, 0, none⟩)] w fun e w' => e = .returned (.func (.func 67) #[] #[.pointer (some ⟨w.heap.size, 0, none⟩)]) ∧ w' = w.alloc (.cells #[.pointer (some ⟨p, 0, none⟩)] 56) := by
  clear h
  go_enter Try.func54, Try.ntmps54
  go_wp2
  go_ret
  exact ⟨rfl, rfl⟩
end
end Go.Proofs.Ytieiopeblleheaa
