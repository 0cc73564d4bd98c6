/-
  The calls on a disk, whatever they are asked: one contract for each.
-/
import Derived.Test.YtilclfeaolhoeaaDoorDiskApi
import Derived.Test.YtilclfeaolhoeaaDoorDisk9
import Derived.Test.YtilclfeaolhoeaaDoorRowKitX
namespace Go.Proofs.YtilclfeaolhoeaaDoor
set_option linter.unusedSimpArgs false
set_option linter.unusedVariables false
open Go.RowKit

/-- What Write answers, and leaves. -/
def DS.wcode (S : DS) (i : Int) (m : Nat) : Int := if i < 0 ∨ (S.now.length : Int) ≤ i ∨ m ≠ 64 then 1 else if S.dead = true then 50 else 0
def DS.wrote (S : DS) (i : Int) (s : List UInt8) : DS := if S.wcode i s.length = 0 then S.wr i.toNat s else S
def DS.fcode (S : DS) : Int := if S.dead = true then 50 else 0
def DS.flushed (S : DS) : DS := if S.dead = true then S else S.flush

section
variable {R : Nat → Prop} {w : World} {p : Nat} {S : DS}

theorem DS.wcode_good {S : DS} {i : Int} {m : Nat} (h : S.wcode i m = 0) : 0 ≤ i ∧ i < S.now.length ∧ m = 64 ∧ S.dead = false := by
  unfold DS.wcode at h
  split at h
  · cases h
  · split at h
    · cases h
    · rename_i h1 h2
      exact ⟨by omega, by omega, by omega, by simpa using h2⟩

theorem DiskOk.ext {w' : World} (h : DiskOk R w p S) (hf : w.heap.size ≤ w'.heap.size) (hd : DiskOk R w' p S) : DiskOk (Ext R w w') w' p S := by
  have hl : ∀ b, R b → b < w.heap.size := fun b hb => h.lt hb
  obtain ⟨nb, lb, nv, lv, wv, ws, hd⟩ := hd
  exact ⟨nb, lb, nv, lv, wv, ws, hd.more (fun b hb => .inl hb) (fun b hb => by
    rcases hb with hb | hb
    · have := hl b hb; omega
    · exact hb.2)⟩

theorem Write_any (i : Int) (g m c : Nat) (s : List UInt8) (h : DiskOk R w p S) (hm : s.length = m) (hc : ∀ j u, (bts s)[j]? = some u → w.cell? ((⟨g, 0, none⟩ : Addr).add j) = some u) (hg : g < w.heap.size) (hwl : S.waits.length < 4000000000) :
    Calls Tryd.prog 29 #[.pointer (some ⟨p, 0, none⟩), .int .i64 i, .slice (some ⟨g, 0, none⟩) m c] w fun e w' => e = .returned (.int .i64 (S.wcode i m)) ∧ DiskOk (Ext R w w') w' p (S.wrote i s) ∧ FrD R w w' := by
  subst hm
  have hn : FrD R w w := Fr.refl _ _
  unfold DS.wrote
  unfold DS.wcode
  by_cases h1 : i < 0 ∨ (S.now.length : Int) ≤ i ∨ s.length ≠ 64
  · rw [if_pos h1]
    refine (Write_bad i _ _ c h h1).mono ?_
    rintro e w' ⟨rfl, rfl⟩
    exact ⟨rfl, h.ext (Nat.le_refl _) h, hn⟩
  · rw [if_neg h1]
    have hl : s.length = 64 := by omega
    by_cases h2 : S.dead = true
    · rw [if_pos h2]
      rw [hl]
      refine (Write_dead i _ c h (by omega) (by omega) h2).mono ?_
      rintro e w' ⟨rfl, rfl⟩
      exact ⟨rfl, h.ext (Nat.le_refl _) h, hn⟩
    · rw [if_neg h2]
      obtain ⟨k, rfl⟩ := Int.eq_ofNat_of_zero_le (show 0 ≤ i by omega)
      rw [hl]
      refine (Write_goodD k ⟨g, 0, none⟩ c s h (by omega) (by simpa using h2) hl hc hg hwl).mono ?_
      rintro e w' ⟨rfl, hd, hf⟩
      exact ⟨rfl, by rw [if_pos rfl, Int.toNat_natCast]; exact hd, hf⟩

theorem Flush_any (h : DiskOk R w p S) (hwl : S.waits.length < 4000000000) :
    Calls Tryd.prog 22 #[.pointer (some ⟨p, 0, none⟩)] w fun e w' => e = .returned (.int .i64 S.fcode) ∧ DiskOk R w' p S.flushed ∧ FrD R w w' := by
  unfold DS.fcode DS.flushed
  by_cases h2 : S.dead = true
  · rw [if_pos h2, if_pos h2]
    refine (Flush_dead h h2).mono ?_
    rintro e w' ⟨rfl, rfl⟩
    exact ⟨rfl, h, Fr.refl _ _⟩
  · rw [if_neg h2, if_neg h2]
    exact Flush_goodD h (by simpa using h2) hwl
theorem DiskOk.more {R R' : Nat → Prop} {w : World} {p : Nat} {S : DS} (h : DiskOk R w p S) (hr : ∀ b, R b → R' b) (hl : ∀ b, R' b → b < w.heap.size) : DiskOk R' w p S := by
  obtain ⟨nb, lb, nv, lv, wv, ws, h⟩ := h
  exact ⟨nb, lb, nv, lv, wv, ws, h.more hr hl⟩
end
end Go.Proofs.YtilclfeaolhoeaaDoor
