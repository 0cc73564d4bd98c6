/-
  480 bytes by a number; a page by a number.
-/
import Derived.Test.YtilclfeaolhoeaaDoorPgWrite
import Derived.Test.YtilclfeaolhoeaaDoorPgRd
namespace Go.Proofs.YtilclfeaolhoeaaDoor
set_option linter.unusedSimpArgs false
set_option linter.unusedVariables false
open Go.RowKit

def dataAt (n i : Nat) : UInt8 := UInt8.ofNat (n * (i % 7 + 1))
/-- 480 bytes by a number. -/
def dataB (n : Nat) : List UInt8 := (List.range 480).map (dataAt n)
def dataK (n k : Nat) : List UInt8 := (List.range 480).map fun i => if i < k then dataAt n i else 0
theorem dataB_length (n : Nat) : (dataB n).length = 480 := by unfold dataB; rw [List.length_map, List.length_range]
theorem dataK_length (n k : Nat) : (dataK n k).length = 480 := by unfold dataK; rw [List.length_map, List.length_range]
theorem dataK_zero (n : Nat) : dataK n 0 = zeros 480 := by
  refine List.ext_getElem? (fun i => ?_)
  unfold dataK zeros
  rw [List.getElem?_map, List.getElem?_replicate]
  by_cases h : i < 480
  · rw [List.getElem?_range h, if_pos h]; rfl
  · rw [List.getElem?_eq_none (by rw [List.length_range]; omega), if_neg h]; rfl
theorem dataK_succ (n k : Nat) (h : k < 480) : dataK n (k + 1) = (dataK n k).set k (dataAt n k) := by
  refine List.ext_getElem? (fun i => ?_)
  rw [List.getElem?_set]
  unfold dataK
  rw [List.getElem?_map, List.getElem?_map, List.length_map, List.length_range]
  by_cases hi : i < 480
  · rw [List.getElem?_range hi]
    by_cases e : k = i
    · subst e; rw [if_pos rfl, if_pos hi]; simp
    · rw [if_neg e]
      have : (i < k + 1) ↔ (i < k) := by omega
      simp [this]
  · rw [List.getElem?_eq_none (by rw [List.length_range]; omega)]
    rw [if_neg (by omega)]; rfl
theorem dataK_full (n : Nat) : dataK n 480 = dataB n := by
  unfold dataK dataB
  refine List.map_congr_left (fun i hi => ?_)
  rw [List.mem_range] at hi
  rw [if_pos hi]

set_option maxHeartbeats 1600000 in
set_option maxRecDepth 100000 in
theorem Data_any (n : Nat) (w : World) (hn : n ≤ 100000) :
    Calls Tryd.prog 16 #[.int .i64 n] w fun e w' => e = .returned (.slice (some ⟨w.heap.size, 0, none⟩) 480 480) ∧ Blk w' w.heap.size 5 (bts (dataB n)).toArray ∧ Fr Nob w w' := by
  have hmk := make480
  have qL := len_by
  have hb0 : Blk (w.alloc (.cells (zeroCells 480) 5)) w.heap.size 5 (bts (dataK n 0)).toArray := by rw [dataK_zero, ← zeroCells_eq]; exact Blk.new _ _ _
  have HB0 := Lib.hid hb0
  have HF0 : Hid (Fr Nob w (w.alloc (.cells (zeroCells 480) 5))) := (Fr.refl _ w).alloc _
  obtain ⟨g, hg⟩ : ∃ g, w.heap.size = g := ⟨_, rfl⟩
  have HG := Lib.hid hg
  rw [hg] at HB0 ⊢
  clear hb0
  go_enter Tryd.func16, Tryd.ntmps16
  go_wp2
  try (rw [qL]; go_wp2)
  clear hg
  go_loopw [4, 8] (fun _ iv wr => ∃ k : Nat, k ≤ 480 ∧ iv = .int .i64 k ∧ Hid (Blk wr g 5 (bts (dataK n k)).toArray) ∧ Hid (Fr Nob w wr)) (fun _ iv _ => 480 - (intOf iv).toNat)
  case atStart => exact ⟨0, by omega, rfl, HB0.out, HF0.out⟩
  case round =>
    clear HB0 HF0
    obtain ⟨k, hk, rfl, hB, hF⟩ := hrel
    by_cases hlt : k < 480
    · have hlen : k < (dataK n k).length := by rw [dataK_length]; exact hlt
      have ck := Blk.cell hB.out k
      have fk := Blk.frozen hB.out k
      have hgl := hB.out.lt
      rw [List.getElem?_toArray, bts_get, List.getElem?_eq_getElem hlen, Option.map_some] at ck
      have e1 : (k : Int).tmod 7 = ((k % 7 : Nat) : Int) := by rw [Int.tmod_eq_emod_of_nonneg (by omega)]; omega
      have e2 : IntKind.i64.wrap (((k % 7 : Nat) : Int) + 1) = ((k % 7 + 1 : Nat) : Int) := by rw [IntKind.wrap_i64]; omega
      have hb7 : k % 7 + 1 ≤ 7 := by omega
      have hmul : n * (k % 7 + 1) ≤ 700000 := Nat.le_trans (Nat.mul_le_mul hn hb7) (by decide)
      have e3 : IntKind.i64.wrap ((n : Int) * ((k % 7 + 1 : Nat) : Int)) = ((n * (k % 7 + 1) : Nat) : Int) := by rw [← Int.natCast_mul, IntKind.wrap_i64]; omega
      have e4 : IntKind.u8.wrap ((n * (k % 7 + 1) : Nat) : Int) = ((dataAt n k).toNat : Int) := by
        rw [show IntKind.u8.wrap ((n * (k % 7 + 1) : Nat) : Int) = ((n * (k % 7 + 1) : Nat) : Int) % 256 from rfl]
        unfold dataAt
        rw [UInt8.toNat_ofNat']
        omega
      have e0 : IntKind.i64.wrap ((k : Int).tmod 7) = ((k % 7 : Nat) : Int) := by rw [e1, IntKind.wrap_i64]; omega
      have e5 : wrap64 ((n : Int) * ((k : Int) % 7 + 1)) % 256 = ((dataAt n k).toNat : Int) := by
        have e6 : (k : Int) % 7 + 1 = ((k % 7 + 1 : Nat) : Int) := by omega
        rw [e6, ← Int.natCast_mul, show wrap64 ((n * (k % 7 + 1) : Nat) : Int) = ((n * (k % 7 + 1) : Nat) : Int) from by unfold wrap64; omega]; exact e4
      have HSet : Hid (Blk (wr.setCell ⟨g, k, none⟩ (.int .u8 (dataAt n k).toNat)) g 5 (bts (dataK n (k + 1))).toArray) := by
        have := hB.out.set_ k (.int .u8 (dataAt n k).toNat)
        rw [bts_set] at this
        rw [dataK_succ n k hlt]; exact this
      have HFs : Hid (Fr Nob w (wr.setCell ⟨g, k, none⟩ (.int .u8 (dataAt n k).toNat))) := hF.out.setCell (p := ⟨g, k, none⟩) (.inl (by rw [HG.out]; exact Nat.le_refl _)) _
      generalize (dataK n k)[k] = old at ck
      clear hB hF hlen
      go_wp2
      go_roundw
      case rel => exact ⟨k + 1, by omega, by go_num, HSet.out, HFs.out⟩
      case measure => simp [intOf]; omega
    · obtain rfl : k = 480 := by omega
      have HBf := Lib.hid hB.out
      rw [dataK_full] at HBf
      clear hB
      go_wp2
      go_ret
      exact ⟨rfl, HBf.out, hF.out⟩
theorem i64_and65535 (n : Int) : bits .and .i64 n 65535 = n % 65536 := by
  have := i64_mask n 65535 16 (by decide) (by decide) (by decide)
  simpa using this

set_option maxHeartbeats 1600000 in
set_option maxRecDepth 100000 in
theorem of_any (no n : Int) (w : World) :
    Calls Tryd.prog 8 #[.agg #[.int .i64 no, .int .i64 n]] w fun e w' => ∃ g, e = .returned (.agg #[.int .i64 no, .int .u64 (n % 65536), .slice (some ⟨g, 0, none⟩) 480 480]) ∧ Blk w' g 5 (bts (dataB (n % 65536).toNat)).toArray ∧ w.heap.size ≤ g ∧ Fr Nob w w' := by
  have h0 := i64_and65535 n
  have hnn : (((n % 65536).toNat : Nat) : Int) = n % 65536 := Int.toNat_of_nonneg (by omega)
  obtain ⟨m, hm⟩ : ∃ m, (n % 65536).toNat = m := ⟨_, rfl⟩
  have hml : m < 65536 := by omega
  rw [hm] at hnn ⊢
  rw [← hnn] at h0 ⊢
  have ucv : IntKind.u64.wrap (m : Int) = (m : Int) := by rw [IntKind.wrap_u64]; omega
  have HDt : Hid (∀ W, Calls Tryd.prog 16 #[.int .i64 m] W fun e w' => e = .returned (.slice (some ⟨W.heap.size, 0, none⟩) 480 480) ∧ Blk w' W.heap.size 5 (bts (dataB m)).toArray ∧ Fr Nob W w') := fun W => Data_any m W (by omega)
  obtain ⟨s, hs⟩ : ∃ s, w.heap.size = s := ⟨_, rfl⟩
  have HS := Lib.hid hs
  have hb1 : Blk ((w.alloc (.cells #[.int .i64 no, .int .i64 n] 33)).alloc (.cells #[.int .i64 0, .int .u64 0, .slice none 0 0] 37)) s 33 #[.int .i64 no, .int .i64 n] := by rw [← hs]; exact (Blk.new _ _ _).alloc _
  have hb2 : Blk ((w.alloc (.cells #[.int .i64 no, .int .i64 n] 33)).alloc (.cells #[.int .i64 0, .int .u64 0, .slice none 0 0] 37)) (s + 1) 37 #[.int .i64 0, .int .u64 0, .slice none 0 0] := by
    have := Blk.new (w.alloc (.cells #[.int .i64 no, .int .i64 n] 33)) 37 #[.int .i64 0, .int .u64 0, .slice none 0 0]
    rwa [World.size_alloc, hs] at this
  have hfa : Fr Nob w ((w.alloc (.cells #[.int .i64 no, .int .i64 n] 33)).alloc (.cells #[.int .i64 0, .int .u64 0, .slice none 0 0] 37)) := ((Fr.refl _ w).alloc _).alloc _
  clear hm hnn
  go_enter Tryd.func8, Tryd.ntmps8
  go_wp2
  obtain ⟨wa, hwa⟩ : ∃ W, (w.alloc (.cells #[.int .i64 no, .int .i64 n] 33)).alloc (.cells #[.int .i64 0, .int .u64 0, .slice none 0 0] 37) = W := ⟨_, rfl⟩
  rw [hwa] at hb1 hb2 hfa ⊢
  have HB1 := Lib.hid hb1
  have HB2 := Lib.hid hb2
  have HFa := Lib.hid hfa
  clear hwa hb1 hb2 hfa hs
  have hS : Fr Nob wa wa.drew := (Fr.refl _ wa).drew
  refine Rg.begin (Fr Nob wa) [11] (by kernel_rfl) ?_
  refine Rg.op 0 (some 3) hS (v := ?v0r1) (a' := ?a0r1) (hy := fun wz hwz => ?h0r1) (ha := ?b0r1) (h := ?_)
  case h0r1 => (go_simp; try with_reducible rfl)
  case b0r1 => (simp only [Act.put, List.setIfInBounds_toArray, List.set_cons_zero, List.set_cons_succ]; rfl)
  refine Rg.op 1 (some 4) hS (v := ?v1r1) (a' := ?a1r1) (hy := fun wz hwz => ?h1r1) (ha := ?b1r1) (h := ?_)
  case h1r1 => (have hb := HB1.out.fr hwz (fun h => h); have cc1 := Blk.cell hb 0; have hpp := Blk.lt hb; simp only [List.getElem?_toArray, List.getElem?_cons_zero, List.getElem?_cons_succ] at cc1; clear hb; go_simp; try with_reducible rfl)
  case b1r1 => (simp only [Act.put, List.setIfInBounds_toArray, List.set_cons_zero, List.set_cons_succ]; rfl)
  refine Rg.op 2 (some 5) hS (v := ?v2r1) (a' := ?a2r1) (hy := fun wz hwz => ?h2r1) (ha := ?b2r1) (h := ?_)
  case h2r1 => (go_simp; try with_reducible rfl)
  case b2r1 => (simp only [Act.put, List.setIfInBounds_toArray, List.set_cons_zero, List.set_cons_succ]; rfl)
  refine Rg.op 3 (some 6) hS (v := ?v3r1) (a' := ?a3r1) (hy := fun wz hwz => ?h3r1) (ha := ?b3r1) (h := ?_)
  case h3r1 => (have hb := HB1.out.fr hwz (fun h => h); have cc1 := Blk.cell hb 1; have hpp := Blk.lt hb; simp only [List.getElem?_toArray, List.getElem?_cons_zero, List.getElem?_cons_succ] at cc1; clear hb; go_simp; try with_reducible rfl)
  case b3r1 => (simp only [Act.put, List.setIfInBounds_toArray, List.set_cons_zero, List.set_cons_succ]; rfl)
  refine Rg.op 4 (some 7) hS (v := (.int .i64 m)) (a' := ?a4r1) (hy := fun wz hwz => ?h4r1) (ha := ?b4r1) (h := ?_)
  case h4r1 => (have y := h0; go_simp; try with_reducible rfl)
  case b4r1 => (simp only [Act.put, List.setIfInBounds_toArray, List.set_cons_zero, List.set_cons_succ]; rfl)
  refine Rg.op 5 (some 8) hS (v := (.int .u64 m)) (a' := ?a5r1) (hy := fun wz hwz => ?h5r1) (ha := ?b5r1) (h := ?_)
  case h5r1 => (have y := ucv; go_simp; try with_reducible rfl)
  case b5r1 => (simp only [Act.put, List.setIfInBounds_toArray, List.set_cons_zero, List.set_cons_succ]; rfl)
  refine Rg.op 6 (some 9) hS (v := ?v6r1) (a' := ?a6r1) (hy := fun wz hwz => ?h6r1) (ha := ?b6r1) (h := ?_)
  case h6r1 => (go_simp; try with_reducible rfl)
  case b6r1 => (simp only [Act.put, List.setIfInBounds_toArray, List.set_cons_zero, List.set_cons_succ]; rfl)
  refine Rg.op 7 (some 10) hS (v := ?v7r1) (a' := ?a7r1) (hy := fun wz hwz => ?h7r1) (ha := ?b7r1) (h := ?_)
  case h7r1 => (have hb := HB1.out.fr hwz (fun h => h); have cc1 := Blk.cell hb 1; have hpp := Blk.lt hb; simp only [List.getElem?_toArray, List.getElem?_cons_zero, List.getElem?_cons_succ] at cc1; clear hb; go_simp; try with_reducible rfl)
  case b7r1 => (simp only [Act.put, List.setIfInBounds_toArray, List.set_cons_zero, List.set_cons_succ]; rfl)
  refine Rg.op 8 (some 11) hS (v := (.int .i64 m)) (a' := ?a8r1) (hy := fun wz hwz => ?h8r1) (ha := ?b8r1) (h := ?_)
  case h8r1 => (have y := h0; go_simp; try with_reducible rfl)
  case b8r1 => (simp only [Act.put, List.setIfInBounds_toArray, List.set_cons_zero, List.set_cons_succ]; rfl)
  refine Rg.call 9 (some 12) (hrun := ?h9r1) (hcall := HDt.out _) (h := ?_)
  case h9r1 => (go_simp)
  rintro e wd ⟨rfl, hbd, hfd⟩
  have hSd : Fr Nob wa wd := hS.trans hfd
  have HBd := Lib.hid hbd
  have hgd0 : wa.heap.size ≤ wa.drew.heap.size := hS.size
  obtain ⟨gd, hgd⟩ : ∃ g, wa.drew.heap.size = g := ⟨_, rfl⟩
  rw [hgd] at HBd hgd0 ⊢
  clear hbd hfd hgd
  refine ⟨_, ?a9r1, rfl, ?b9r1, (fun _ => hSd), ?_⟩
  case b9r1 => (simp only [Act.put, List.setIfInBounds_toArray, List.set_cons_zero, List.set_cons_succ]; rfl)
  refine Rg.op 10 (some 13) hSd (v := ?v10r1) (a' := ?a10r1) (hy := fun wz hwz => ?h10r1) (ha := ?b10r1) (h := ?_)
  case h10r1 => (go_simp; try with_reducible rfl)
  case b10r1 => (simp only [Act.put, List.setIfInBounds_toArray, List.set_cons_zero, List.set_cons_succ]; rfl)
  refine Rg.store 11 (w' := ((((wd.setCell ⟨s + 1, 0, none⟩ (.int .i64 no)).setCell ⟨s + 1, 1, none⟩ (.int .u64 m)).setCell ⟨s + 1, 2, none⟩ (.slice (some ⟨gd, 0, none⟩) 480 480)))) (hrun := ?h11r1) (hS := (fun h => absurd (by decide) h)) (h := ?_)
  case h11r1 => (have hb := HB2.out.fr hSd (fun h => h); have c0 := hb.cell 0; have c1 := hb.cell 1; have c2 := hb.cell 2; have f0 := hb.frozen 0; have f1 := hb.frozen 1; have f2 := hb.frozen 2; have hp := hb.lt; simp only [List.getElem?_toArray, List.getElem?_cons_zero, List.getElem?_cons_succ] at c0 c1 c2; clear hb; go_simp; try with_reducible rfl)
  refine Rg.done _ (h := ?_)
  have hbE : Blk (((wd.setCell ⟨s + 1, 0, none⟩ (.int .i64 no)).setCell ⟨s + 1, 1, none⟩ (.int .u64 m)).setCell ⟨s + 1, 2, none⟩ (.slice (some ⟨gd, 0, none⟩) 480 480)) (s + 1) 37 #[.int .i64 no, .int .u64 m, .slice (some ⟨gd, 0, none⟩) 480 480] := (((HB2.out.fr hSd (fun h => h)).set_ 0 _).set_ 1 _).set_ 2 _
  have hfE : Fr (fun x => x = s + 1) wd (((wd.setCell ⟨s + 1, 0, none⟩ (.int .i64 no)).setCell ⟨s + 1, 1, none⟩ (.int .u64 m)).setCell ⟨s + 1, 2, none⟩ (.slice (some ⟨gd, 0, none⟩) 480 480)) := (((Fr.refl (fun x => x = s + 1) wd).setCell (p := ⟨s + 1, 0, none⟩) (.inr rfl) _).setCell (p := ⟨s + 1, 1, none⟩) (.inr rfl) _).setCell (p := ⟨s + 1, 2, none⟩) (.inr rfl) _
  have hszs := HB2.out.lt
  go_wp2
  refine bodyPost_ret (results_cell_row rfl _ _ _ _ _ _ _ rfl hbE Tryd.underlying37 rfl page_size) rfl ⟨gd, rfl, HBd.out.fr hfE (fun h => by omega), by have := HFa.out.size; omega, (HFa.out.trans hSd).step hfE (fun i hi h => by have := HS.out; omega)⟩
end Go.Proofs.YtilclfeaolhoeaaDoor
