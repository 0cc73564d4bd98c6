/-
  The calls on a disk, as their callers meet them: numbers as Go's ints.
-/
import Derived.Test.YtilclfeaolhoeaaDoorDisk3
import Derived.Test.YtilclfeaolhoeaaDoorDisk4
import Derived.Test.YtilclfeaolhoeaaDoorDisk5
import Derived.Test.YtilclfeaolhoeaaDoorDisk6
import Derived.Test.YtilclfeaolhoeaaDoorDisk9
namespace Go.Proofs.YtilclfeaolhoeaaDoor
set_option linter.unusedSimpArgs false
set_option linter.unusedVariables false
open Go.RowKit

/-- A row of bytes in a block of its own. -/
def Row64 (w : World) (g : Nat) (s : List UInt8) : Prop := Blk w g 5 (bts s).toArray

section
variable {R : Nat → Prop} {w : World} {p : Nat} {S : DS}

theorem New_ok (n : Int) (w : World) (h1 : 8 ≤ n) (h2 : n ≤ 65536) :
    Calls Tryd.prog 5 #[.int .i64 n] w fun e w' => ∃ p, e = .returned (.tuple #[.pointer (some ⟨p, 0, none⟩), .int .i64 0]) ∧ w.heap.size ≤ p ∧ DiskOk (fun b => w.heap.size ≤ b ∧ b < w'.heap.size) w' p (DS.new n.toNat) ∧ Fr Nob w w' := by
  obtain ⟨k, rfl⟩ := Int.eq_ofNat_of_zero_le (show 0 ≤ n by omega)
  rw [Int.toNat_natCast]
  exact New_good k w (by omega) (by omega)

theorem Write_ok (i : Int) (g : Nat) (c : Nat) (s : List UInt8) (h : DiskOk R w p S) (h0 : 0 ≤ i) (hi : i < S.now.length) (hd : S.dead = false) (hs : s.length = 64) (hg : Row64 w g s) (hwl : S.waits.length < 4000000000) :
    Calls Tryd.prog 29 #[.pointer (some ⟨p, 0, none⟩), .int .i64 i, .slice (some ⟨g, 0, none⟩) 64 c] w fun e w' => e = .returned (.int .i64 0) ∧ DiskOk (Ext R w w') w' p (S.wr i.toNat s) ∧ Fr R w w' := by
  obtain ⟨k, rfl⟩ := Int.eq_ofNat_of_zero_le h0
  rw [Int.toNat_natCast]
  exact Write_good k ⟨g, 0, none⟩ c s h (by omega) hd hs (fun j u hu => World.news_of_block hg j u (by simpa using hu)) (Blk.lt hg) hwl

theorem Read_ok (i : Int) (s : List UInt8) (h : DiskOk R w p S) (h0 : 0 ≤ i) (hd : S.dead = false) (hs : S.now[i.toNat]? = some s) :
    Calls Tryd.prog 37 #[.pointer (some ⟨p, 0, none⟩), .int .i64 i] w fun e w' => e = .returned (.tuple #[.slice (some ⟨w.heap.size, 0, none⟩) 64 64, .int .i64 0]) ∧ Row64 w' w.heap.size s ∧ Fr Nob w w' := by
  obtain ⟨k, rfl⟩ := Int.eq_ofNat_of_zero_le h0
  rw [Int.toNat_natCast] at hs
  exact Read_good k s h hd hs

theorem Row64.fr {F : Nat → Prop} {w w' : World} {g : Nat} {s : List UInt8} (h : Row64 w g s) (hf : Fr F w w') (hg : ¬ F g) : Row64 w' g s := Blk.fr h hf hg
theorem Row64.lt {w : World} {g : Nat} {s : List UInt8} (h : Row64 w g s) : g < w.heap.size := Blk.lt h
theorem Row64.conv {w : World} {g : Nat} {s : List UInt8} (h : Row64 w g s) (hs : s.length = 64) :
    (convert 35 9 (.slice (some ⟨g, 0, none⟩) 64 64)).run Tryd.prog w = .ok (.string ⟨s.toArray⟩) w := conv_own (bts_own h hs)
end

theorem DiskOk.len64 {R : Nat → Prop} {w : World} {p : Nat} {S : DS} (h : DiskOk R w p S) {i : Nat} {s : List UInt8} (hs : S.now[i]? = some s) : s.length = 64 := by
  obtain ⟨nb, lb, nv, lv, wv, ws, h⟩ := h
  have hi : i < S.now.length := (List.getElem?_eq_some_iff.1 hs).1
  have hi' : i < nv.length := Nat.lt_of_lt_of_le hi h.now.1
  exact (h.now.2 i nv[i] s (List.getElem?_eq_getElem hi') hs).1

/-! ### what the disk's words come to -/
theorem DS.burn_off {S : DS} (h : S.fuse ≤ 0) : S.burn = S := by unfold DS.burn; rw [if_neg (by omega)]
theorem DS.wr_off {S : DS} (h : S.fuse ≤ 0) (i : Nat) (s : List UInt8) : S.wr i s = S.wr0 i s := DS.burn_off h
theorem DS.flush_off {S : DS} (h : S.fuse ≤ 0) : S.flush = S.flush0 := DS.burn_off h
theorem chosen_none {β : Type} (l : List β) : chosen [] l = [] := by
  unfold chosen
  rw [List.map_eq_nil_iff, List.filter_eq_nil_iff]
  intro a _; simp
theorem setAll_nil {α : Type} (l : List α) : setAll l [] = l := rfl
theorem nought_length : nought.length = 64 := by simp [nought]
end Go.Proofs.YtilclfeaolhoeaaDoor
