/-
  The bytes of a log's head.
-/
import Derived.Test.YtieiopeblleheaaWal3
namespace Go.Proofs.Ytieiopeblleheaa
set_option linter.unusedSimpArgs false
set_option linter.unusedVariables false
open Go.RowKit

def begM : List UInt8 := (zeros 64).set 0 76
def begT (turn : Nat) : List UInt8 := splice begM 8 (putB 8 turn)
def begL (turn lsn : Nat) : List UInt8 := splice (begT turn) 16 (putB 8 lsn)
def begPre (turn lsn at_ : Nat) : List UInt8 := splice (begL turn lsn) 24 (putB 8 at_)
def begB (turn lsn at_ : Nat) : List UInt8 := splice (begPre turn lsn at_) 4 (putB 4 (crcN (begPre turn lsn at_)))
theorem begM_length : begM.length = 64 := by simp [begM, zeros]
theorem begT_length (a : Nat) : (begT a).length = 64 := by unfold begT; rw [length_splice _ _ _ (by rw [putB_length, begM_length]; omega), begM_length]
theorem begL_length (a b : Nat) : (begL a b).length = 64 := by unfold begL; rw [length_splice _ _ _ (by rw [putB_length, begT_length]; omega), begT_length]
theorem begPre_length (a b c : Nat) : (begPre a b c).length = 64 := by unfold begPre; rw [length_splice _ _ _ (by rw [putB_length, begL_length]; omega), begL_length]
theorem begB_length (a b c : Nat) : (begB a b c).length = 64 := by unfold begB; rw [length_splice _ _ _ (by rw [putB_length, begPre_length]; omega), begPre_length]

set_option maxHeartbeats 800000 in
set_option maxRecDepth 100000 in
theorem begin_any (turn lsn at_ : Nat) (w : World) (h1 : turn < 18446744073709551616) (h2 : lsn < 18446744073709551616) (h3 : at_ < 18446744073709551616) :
    Calls Try.prog 60 #[.int .u64 turn, .int .u64 lsn, .int .u64 at_] w fun e w' => e = .returned (.slice (some ⟨w.heap.size, 0, none⟩) 64 64) ∧ Blk w' w.heap.size 5 (bts (begB turn lsn at_)).toArray ∧ Fr Nob w w' := by
  have hmk := make64
  have hz0 : zeros64.setIfInBounds 0 (.int .u8 76) = (bts begM).toArray := by
    unfold begM
    rw [← bts_set, show (bts (zeros 64)).toArray = zeros64 from zeros64_eq.symm]; rfl
  have HB0 : Hid (Blk (w.alloc (.cells (zeros64.setIfInBounds 0 (.int .u8 76)) 5)) w.heap.size 5 (bts begM).toArray) := by
    show Blk _ _ _ _
    rw [hz0]; exact Blk.new w _ _
  have HF0 : Hid (Fr Nob w (w.alloc (.cells (zeros64.setIfInBounds 0 (.int .u8 76)) 5))) := (Fr.refl _ w).alloc _
  clear hz0
  have c00 : zeros64[0]? = some (.int .u8 0) := by rw [zeros64_eq]; rfl
  go_enter Try.func60, Try.ntmps60
  go_wp2_with fail
  refine (put_any w.heap.size 8 8 56 begM turn _ HB0.out (by rw [begM_length]; omega) h1 (by omega)).mono ?_
  rintro e w1 ⟨rfl, hb1, hf1⟩
  have HB1 : Hid (Blk w1 w.heap.size 5 (bts (begT turn)).toArray) := hb1
  have HF1 : Hid (Fr Nob w w1) := HF0.out.step hf1 (fun i hi e => by omega)
  clear hb1 hf1 c00
  go_wp2_with fail
  refine (put_any w.heap.size 16 8 48 (begT turn) lsn _ HB1.out (by rw [begT_length]; omega) h2 (by omega)).mono ?_
  rintro e w2 ⟨rfl, hb2, hf2⟩
  have HB2 : Hid (Blk w2 w.heap.size 5 (bts (begL turn lsn)).toArray) := hb2
  have HF2 : Hid (Fr Nob w w2) := HF1.out.step hf2 (fun i hi e => by omega)
  clear hb2 hf2
  go_wp2_with fail
  refine (put_any w.heap.size 24 8 40 (begL turn lsn) at_ _ HB2.out (by rw [begL_length]; omega) h3 (by omega)).mono ?_
  rintro e w4 ⟨rfl, hb4, hf4⟩
  have HB4 : Hid (Blk w4 w.heap.size 5 (bts (begPre turn lsn at_)).toArray) := hb4
  have HF4 : Hid (Fr Nob w w4) := HF2.out.step hf4 (fun i hi e => by omega)
  have HL4 := Lib.hid (begPre_length turn lsn at_)
  clear hb4 hf4 HB0 HF0 HB1 HF1 HB2 HF2
  obtain ⟨g, hg⟩ : ∃ g, w.heap.size = g := ⟨_, rfl⟩
  have HG : Hid (w.heap.size ≤ g) := Nat.le_of_eq hg
  have HGe := Lib.hid hg
  rw [hg] at HB4 ⊢
  clear hg
  have hcr := crcN_lt (begPre turn lsn at_)
  have HQ : Hid (splice (begPre turn lsn at_) 4 (putB 4 (crcN (begPre turn lsn at_))) = begB turn lsn at_) := rfl
  generalize begPre turn lsn at_ = t at *
  go_wp2_with fail
  refine wp_region_quietly (fun W => Fr Nob w W) (by kernel_rfl) ?_
  have hS : Fr Nob w w4.drew := HF4.out.drew
  refine wpAnyH_op (i := 0) (some 23) (v := ?v0) (a' := ?a0) rfl rfl (by kernel_rfl) (by kernel_rfl) (by kernel_rfl) (fun _ _ _ h => h) rfl (fun wz hwz => ?h0) ?b0 hS ?_
  case h0 => (go_simp; try with_reducible rfl)
  case b0 => (simp only [Act.put, List.setIfInBounds_toArray, List.set_cons_zero, List.set_cons_succ]; rfl)
  refine wpAnyH_op (i := 1) (some 24) (v := ?v1) (a' := ?a1) rfl rfl (by kernel_rfl) (by kernel_rfl) (by kernel_rfl) (fun _ _ _ h => h) rfl (fun wz hwz => ?h1) ?b1 hS ?_
  case h1 => (go_simp; try with_reducible rfl)
  case b1 => (simp only [Act.put, List.setIfInBounds_toArray, List.set_cons_zero, List.set_cons_succ]; rfl)
  refine wpAnyH_op (i := 2) (some 25) (v := ?v2) (a' := ?a2) rfl rfl (by kernel_rfl) (by kernel_rfl) (by kernel_rfl) (fun _ _ _ h => h) rfl (fun wz hwz => ?h2) ?b2 hS ?_
  case h2 => (go_simp; try with_reducible rfl)
  case b2 => (simp only [Act.put, List.setIfInBounds_toArray, List.set_cons_zero, List.set_cons_succ]; rfl)
  refine wpAnyH_call (i := 3) rfl (by kernel_rfl) rfl ?run3 (crc64 HB4.out.drew HL4.out) ?_
  case run3 => go_simp
  rintro e w5 ⟨rfl, hf5⟩
  have hS5 : Fr Nob w w5 := hS.trans hf5
  have HB5 : Hid (Blk w5 g 5 (bts t).toArray) := HB4.out.drew.fr hf5 (fun h => h)
  clear hf5
  refine ⟨_, rfl, hS5, ?_⟩
  refine wpAnyH_at (some 26) (a' := ?a3) rfl ?b3 ?_
  case b3 => (simp only [Act.put, List.setIfInBounds_toArray, List.set_cons_zero, List.set_cons_succ]; rfl)
  refine wpAnyH_op (i := 4) (some 27) (v := (.int .u64 (crcN t : Nat))) (a' := ?a4) rfl rfl (by kernel_rfl) (by kernel_rfl) (by kernel_rfl) (fun _ _ _ h => h) rfl (fun wz hwz => ?h4) ?b4 hS5 ?_
  case h4 => (have hcr2 := wrap_nat (n := crcN t) (by omega); go_simp; try with_reducible rfl)
  case b4 => (simp only [Act.put, List.setIfInBounds_toArray, List.set_cons_zero, List.set_cons_succ]; rfl)
  refine wpAnyH_call (i := 5) rfl (by kernel_rfl) rfl ?run5 (put_any g 4 4 60 t (crcN t) w5 HB5.out (by rw [HL4.out]; omega) (by omega) (by omega)) ?_
  case run5 => go_simp
  rintro e w6 ⟨rfl, hb6, hf6⟩
  have hS6 : Fr Nob w w6 := hS5.step hf6 (fun i hi e => by have := HG.out; omega)
  rw [HQ.out] at hb6
  have HB6 := Lib.hid hb6
  clear hb6 hf6
  refine ⟨_, rfl, hS6, ?_⟩
  refine wpAnyH_at (some 28) (a' := ?a5) rfl ?b5 ?_
  case b5 => (simp only [Act.put, List.setIfInBounds_toArray, List.set_cons_zero, List.set_cons_succ]; rfl)
  refine wpAnyH_done (by kernel_rfl) ?_ _
  dsimp only [OnlyNormal]
  go_wp2
  go_ret
  rw [HGe.out]
  exact ⟨rfl, HB6.out, hS6⟩
end Go.Proofs.Ytieiopeblleheaa
