/-
  Rec: the record that the statements append.
-/
import Derived.Test.YtieiopeblleheaaWalTold
namespace Go.Proofs.Ytieiopeblleheaa
set_option linter.unusedSimpArgs false
set_option linter.unusedVariables false
open Go.RowKit

def recB (n long : Nat) : List UInt8 := (List.range long).map fun i => UInt8.ofNat (n + i * 3)
theorem recB_length (n long : Nat) : (recB n long).length = long := by simp [recB]
/-- Rec's row behind k rounds. -/
def recR (n long k : Nat) : List Value := (List.range long).map fun i => if i < k then .int .u8 ((UInt8.ofNat (n + i * 3)).toNat : Int) else .int .u8 0
theorem recR_length (n long k : Nat) : (recR n long k).length = long := by simp [recR]
theorem recR_get (n long k i : Nat) (h : i < long) : (recR n long k)[i]? = some (if i < k then .int .u8 ((UInt8.ofNat (n + i * 3)).toNat : Int) else .int .u8 0) := by
  simp [recR, List.getElem?_range h]
theorem recR_set (n long k : Nat) (h : k < long) : (recR n long k).set k (.int .u8 ((UInt8.ofNat (n + k * 3)).toNat : Int)) = recR n long (k + 1) := by
  apply List.ext_getElem?
  intro i
  rw [List.getElem?_set, recR_length]
  by_cases hi : i < long
  · rw [recR_get _ _ _ _ hi, recR_get _ _ _ _ hi]
    by_cases e : k = i
    · subst e
      simp [h]
    · rw [if_neg e]
      congr 1
      by_cases h2 : i < k
      · rw [if_pos h2, if_pos (by omega)]
      · rw [if_neg h2, if_neg (by omega)]
  · rw [if_neg (by omega), List.getElem?_eq_none (by rw [recR_length]; omega), List.getElem?_eq_none (by rw [recR_length]; omega)]
theorem recR_zero (n long : Nat) : recR n long 0 = bts (zeros long) := by
  unfold recR bts zeros
  apply List.ext_getElem?
  intro i
  by_cases hi : i < long
  · simp [List.getElem?_range hi, List.getElem?_replicate, hi]
  · simp [List.getElem?_eq_none, hi]
theorem recR_all (n long : Nat) : recR n long long = bts (recB n long) := by
  unfold recR bts recB
  rw [List.map_map]
  apply List.map_congr_left
  intro i hi
  rw [if_pos (List.mem_range.1 hi)]
  rfl
theorem mod_u8_ofNat (x : Nat) : (x : Int) % 256 = ((UInt8.ofNat x).toNat : Int) := by
  rw [UInt8.toNat_ofNat']; omega
set_option maxHeartbeats 1600000 in
set_option maxRecDepth 100000 in
theorem Rec_any (n long : Nat) (hn : n < 1000000000) (hl : long ≤ 1000000) (w : World) :
    Calls Try.prog 39 #[.int .i64 n, .int .i64 long] w fun e w' => e = .returned (.slice (some ⟨w.heap.size, 0, none⟩) long long) ∧ Blk w' w.heap.size 5 (bts (recB n long)).toArray ∧ Fr Nob w w' := by
  obtain ⟨i0, hi0, hz0, hz1, hz2⟩ := info_parts info_u8
  go_enter Try.func39, Try.ntmps39
  have hmk : (Instr.makeSlice 29 (.int .i64 (long : Int)) (.int .i64 (long : Int))).run Try.prog w = .ok (.slice (some ⟨w.heap.size, 0, none⟩) long long) (w.alloc (.cells (recR n long 0).toArray 5)) := by
    have := run_make (P := Try.prog) w 29 5 i0 (.int .u8 0) Try.underlying29 hi0 hz0 .i64 .i64 (long : Int) (long : Int) (by omega) (by omega) (by rw [hz2]; omega) (by omega)
    rw [this, hz1, show (Value.int .u8 0).cells = #[Value.int .u8 0] from rfl, madeCells_toArray, recR_zero]
    simp [bts, zeros]
  obtain ⟨w1, hw1⟩ : ∃ w1, w.alloc (.cells (recR n long 0).toArray 5) = w1 := ⟨_, rfl⟩
  have hb1 : Blk w1 w.heap.size 5 (recR n long 0).toArray := by rw [← hw1]; exact Blk.new _ _ _
  have hf1 : Fr Nob w w1 := by rw [← hw1]; exact (Fr.refl _ w).alloc _
  rw [hw1] at hmk
  have HB1 := Lib.hid hb1
  have HF1 := Lib.hid hf1
  obtain ⟨z, hz⟩ : ∃ z, w.heap.size = z := ⟨_, rfl⟩
  have HZ := Lib.hid hz
  rw [hz] at hmk HB1 ⊢
  clear hb1 hf1 hw1
  go_wp2
  clear hmk
  go_loopw [6, 11] (fun _ i wr => ∃ k : Nat, k ≤ long ∧ i = .int .i64 k ∧ Hid (Blk wr z 5 (recR n long k).toArray) ∧ Hid (Fr Nob w wr))
    (fun _ i _ => long - (intOf i).toNat)
  case atStart => exact ⟨0, Nat.zero_le _, rfl, HB1, HF1⟩
  case round =>
    obtain ⟨k, hk, rfl, hB, hF⟩ := hrel
    by_cases hlt : k < long
    · have c0 := hB.out.cell k
      have q0 := hB.out.frozen k
      have hp := hB.out.lt
      rw [List.getElem?_toArray, recR_get _ _ _ _ hlt] at c0
      go_wp2
      have hv : ((n : Int) + (k : Int) * 3) % 256 = ((UInt8.ofNat (n + k * 3)).toNat : Int) := by rw [← mod_u8_ofNat]; congr 1
      rw [hv]
      refine ⟨⟨k + 1, by omega, by go_num, ?_, hF.out.setCell (p := ⟨z, k, none⟩) (.inl (by show _ ≤ z; rw [HZ.out]; exact Nat.le_refl _)) _⟩, by simp [intOf]; omega⟩
      have := hB.out.set_ k (.int .u8 ((UInt8.ofNat (n + k * 3)).toNat : Int))
      rw [Hid, ← recR_set _ _ _ hlt]
      simpa using this
    · obtain rfl : k = long := by omega
      go_wp2
      go_ret
      refine ⟨rfl, ?_, hF.out⟩
      rw [← recR_all]; exact hB.out
end Go.Proofs.Ytieiopeblleheaa
