/-
  DiskPlays: a disk does what the document says at every call. For any number of sectors and any script within the reach.
-/
import Derived.Test.YtieiopeblleheaaPlaysMem
import Derived.Deep.DeepCutAuto
import Derived.Deep.CutBlock
namespace Go.Proofs.Ytieiopeblleheaa
set_option linter.unusedSimpArgs false
set_option linter.unusedVariables false
open Go.RowKit

set_option maxHeartbeats 8000000 in
set_option maxRecDepth 100000 in
theorem Plays_any (n : Int) (A : Option Addr) (c : Nat) (ops : List OpV) (w : World) (h0 : -9223372036854775808 ≤ n) (h1 : n ≤ 9223372036854775807) (ho : OpsIn w A ops) (hr : ops.length ≤ 4000000000000) :
    Calls Try.prog 6 #[.int .i64 n, .slice A ops.length c] w fun e w' => e = .returned (.bool true) ∧ Fr Nob w w' := by
  have HO := Lib.hid ho
  clear ho
  go_enter Try.func6, Try.ntmps6
  go_upto_region 1 with fail
  go_cut [22] (fun s22 wx => wx = w ∧ s22 = .bool (decide (40 < n ∧ n ≤ 65536)))
  case first =>
    rcases (by omega : ¬ 40 < n ∨ (40 < n ∧ n ≤ 65536) ∨ (40 < n ∧ ¬ n ≤ 65536)) with h | ⟨h, h2⟩ | ⟨h, h2⟩
    all_goals
      go_wp2_with fail
      go_meet
      exact ⟨rfl, by simp [h] <;> omega⟩
  case rest =>
    obtain ⟨rfl, rfl⟩ := hcut
    go_upto_if 22 with fail
    go_cut [0] (fun s0 wx => wx = wc ∧ ∃ n' : Int, s0 = .int .i64 n' ∧ ((-9223372036854775808 ≤ n' ∧ n' ≤ 9223372036854775807 ∧ (n' < 8 ∨ 65536 < n')) ∨ (8 ≤ n' ∧ n' ≤ 40)))
    case first =>
      by_cases h : 40 < n ∧ n ≤ 65536
      · have hd : decide (40 < n ∧ n ≤ 65536) = true := by simpa using h
        obtain ⟨z, hz, hz0, hz1⟩ : ∃ z, n.tmod 33 = z ∧ 0 ≤ z ∧ z < 33 := ⟨n % 33, Int.tmod_eq_emod_of_nonneg (by omega), by omega, by omega⟩
        go_wp2_with fail
        go_meet
        case rel => exact ⟨rfl, _, rfl, by omega⟩
      · have hd : decide (40 < n ∧ n ≤ 65536) = false := by simpa using h
        go_wp2_with fail
        go_meet
        case rel => exact ⟨rfl, _, rfl, by omega⟩
    case rest =>
      obtain ⟨hwc, n', rfl, hn⟩ := hcut
      subst hwc
      clear h0 h1
      rcases hn with ⟨h0, h1, hn⟩ | ⟨h0, h1⟩
      · go_wp2_with fail
        refine (New_bad n' _ hn).mono ?_
        rintro e w1 ⟨rfl, rfl⟩
        go_wp2_with fail
        refine (RefNew_bad n' _ hn).mono ?_
        rintro e w1 ⟨rfl, rfl⟩
        go_wp2_with fail
        refine (awake2_any _).mono ?_
        rintro e w5 ⟨rfl, hf5⟩
        go_wp2
        go_ret
        exact ⟨rfl, hf5⟩
      · go_wp2_with fail
        refine (New_ok n' _ h0 (by omega)).mono ?_
        rintro e w1 ⟨p, rfl, hp, hD1, hf1⟩
        have HD1 := Lib.hid hD1
        have HF1 := Lib.hid hf1
        clear hD1 hf1
        obtain ⟨m, rfl⟩ := Int.eq_ofNat_of_zero_le (show 0 ≤ n' by omega)
        have HRN := Lib.hid (RefNew_good m w1 (by omega) (by omega))
        go_wp2_with fail
        refine HRN.out.mono ?_
        rintro e w2 ⟨q, rfl, hq, hD2, hf2⟩
        have HM : Hid (PlayMem wc w2 p q (DS.new m) (DS.new m) Nob) := by
          have hD1 := HD1.out
          rw [Int.toNat_natCast] at hD1
          exact ⟨_, _, { d := hD1.new hf2, r := hD2, dw := fun b hb => hb.1, rw := fun b hb => by have := HF1.out.size; omega, apart := fun b hb hb' => by omega, x := fun b hb => hb.elim, fr := HF1.out.trans hf2 }⟩
        have HG : Hid (Good (DS.new m)) := Good.new m
        have hw0 : (DS.new m).waits.length ≤ 0 := by simp [DS.new]
        clear hD2 hf2 HD1 HF1 HRN
        generalize DS.new m = S0 at *
        go_wp2
        go_loopw [9, 10, 11, 12, 13, 14, 15, 16] (fun i _ _ _ _ _ _ _ wr => ∃ (k : Nat) (S : DS), k ≤ ops.length ∧ k ≤ 60 ∧ i = .int .i64 k ∧ Hid (PlayMem wc wr p q S S Nob) ∧ Hid (Good S) ∧ S.waits.length ≤ k) (fun i _ _ _ _ _ _ _ _ => 60 - (intOf i).toNat)
        case atStart => exact ⟨0, S0, by omega, by omega, rfl, HM, HG, by omega⟩
        case round =>
          clear HM HG hw0
          obtain ⟨k, S, hk, hk60, rfl, hM, hG, hwk⟩ := hrel
          have hwl : S.waits.length < 4000000000 := by omega
          by_cases hlt : k < ops.length ∧ k < 60
          · obtain ⟨hlt1, hlt2⟩ := hlt
            obtain ⟨kb, ko, hA, hcl⟩ := HO.out.2 (by omega)
            subst hA
            obtain ⟨k0, k1, k2, k3, k4⟩ := hcl k _ (List.getElem?_eq_getElem hlt1)
            obtain ⟨hn64, hkeep, hkr⟩ := HO.out.1 _ (List.getElem_mem hlt1)
            have hfr := hM.out.frame
            have c0 := (hfr.cell (cell_lt k0) (fun h => h)).trans k0
            have c1 := (hfr.cell (cell_lt k1) (fun h => h)).trans k1
            have c2 := (hfr.cell (cell_lt k2) (fun h => h)).trans k2
            have c3 := (hfr.cell (cell_lt k3) (fun h => h)).trans k3
            have c4 := (hfr.cell (cell_lt k4) (fun h => h)).trans k4
            clear hfr k0 k1 k2 k3 k4 hcl
            generalize ops[k] = x at *
            obtain ⟨kd, ii, nn, sh, kA, kc, keep⟩ := x
            dsimp only at *
            obtain ⟨hn0, hn1⟩ := i64_bounds hn64
            have HK := Lib.hid hkeep
            clear hkeep hn64
            have hob : Fr Nob wr (wr.alloc (.cells (opCells kd ii nn sh (.slice kA keep.length kc)) 50)) := (Fr.refl _ wr).alloc _
            have HMo : Hid (PlayMem wc (wr.alloc (.cells (opCells kd ii nn sh (.slice kA keep.length kc)) 50)) p q S S (fun b => b = wr.heap.size)) := hM.out.new hob _ (fun b hb => .inr (by subst hb; simp))
            have HBo : Hid (Blk (wr.alloc (.cells (opCells kd ii nn sh (.slice kA keep.length kc)) 50)) wr.heap.size 50 (opCells kd ii nn sh (.slice kA keep.length kc))) := Blk.new wr _ _
            unfold opCells at HMo HBo
            clear hob
            rcases (by omega : kd = 0 ∨ kd = 1 ∨ kd = 2 ∨ kd = 3 ∨ kd = 4 ∨ kd = 5 ∨ (kd ≠ 0 ∧ kd ≠ 1 ∧ kd ≠ 2 ∧ kd ≠ 3 ∧ kd ≠ 4 ∧ kd ≠ 5)) with hkd | hkd | hkd | hkd | hkd | hkd | hkd
            · subst hkd
              obtain ⟨W0, hW0⟩ : ∃ W0, wr.alloc (.cells #[.int .i64 0, .int .i64 ii, .int .i64 nn, .bool sh, .slice kA keep.length kc] 50) = W0 := ⟨_, rfl⟩
              rw [hW0] at HMo HBo
              have o0 := HBo.out.cell 0
              have o1 := HBo.out.cell 1
              have o2 := HBo.out.cell 2
              have o3 := HBo.out.cell 3
              have o4 := HBo.out.cell 4
              simp only [List.getElem?_toArray, List.getElem?_cons_zero, List.getElem?_cons_succ] at o0 o1 o2 o3 o4
              go_wp2_with fail
              clear hW0 c0 c1 c2 c3 c4 o0 o1 o2 o3 o4
              refine (Sector_ok nn _ hn0 hn1).mono ?_
              rintro e w3 ⟨rfl, hr3, hf3⟩
              have hl := sect_length nn
              generalize sect nn = s at *
              have hll := hM.out.lens
              have HM3 : Hid (PlayMem wc w3 p q S S (fun b => b = wr.heap.size ∨ b = W0.heap.size)) := HMo.out.new hf3 _ (fun b hb => hb.imp id (fun hb => by subst hb; exact ⟨Nat.le_refl _, hr3.lt⟩))
              have HB3 := Lib.hid (HBo.out.fr hf3 (fun h => h))
              have HR3 := Lib.hid hr3
              clear hr3 hf3 HMo HBo hM
              have o3 := HB3.out.cell 3
              simp only [List.getElem?_toArray, List.getElem?_cons_zero, List.getElem?_cons_succ] at o3
              cases sh
              · go_wp2
                clear o3
                have HBd : Hid (Blk w3.drew wr.heap.size 50 _) := HB3.out.drew
                have HRd : Hid (Row64 w3.drew W0.heap.size s) := HR3.out
                have HMd := Lib.hid (HM3.out.new' ((Fr.refl Nob w3).drew))
                have hlm : (s.take 64).length = 64 := by rw [List.length_take]; omega
                refine wp_region_quietly (fun W => Blk W wr.heap.size 50 (opCells 0 ii nn false (.slice kA keep.length kc)) ∧ Row64 W W0.heap.size s) (by kernel_rfl) ?_
                have hS : Blk w3.drew wr.heap.size 50 (opCells 0 ii nn false (.slice kA keep.length kc)) ∧ Row64 w3.drew W0.heap.size s := ⟨HBd.out, HRd.out⟩
                refine wpAnyH_op (i := 0) (some 78) (v := ?v0f) (a' := ?a0f) rfl rfl (by kernel_rfl) (by kernel_rfl) (by kernel_rfl) (fun _ _ _ h => h) rfl (fun wz hwz => ?h0f) ?b0f hS ?_
                case h0f => (go_simp; try with_reducible rfl)
                case b0f => (simp only [Act.put, List.setIfInBounds_toArray, List.set_cons_zero, List.set_cons_succ]; rfl)
                refine wpAnyH_op (i := 1) (some 79) (v := ?v1f) (a' := ?a1f) rfl rfl (by kernel_rfl) (by kernel_rfl) (by kernel_rfl) (fun _ _ _ h => h) rfl (fun wz hwz => ?h1f) ?b1f hS ?_
                case h1f => (go_simp; try with_reducible rfl)
                case b1f => (simp only [Act.put, List.setIfInBounds_toArray, List.set_cons_zero, List.set_cons_succ]; rfl)
                refine wpAnyH_op (i := 2) (some 80) (v := ?v2f) (a' := ?a2f) rfl rfl (by kernel_rfl) (by kernel_rfl) (by kernel_rfl) (fun _ _ _ h => h) rfl (fun wz hwz => ?h2f) ?b2f hS ?_
                case h2f => (have o1 := hwz.1.cell 1; simp only [opCells, List.getElem?_toArray, List.getElem?_cons_zero, List.getElem?_cons_succ] at o1; go_simp; try with_reducible rfl)
                case b2f => (simp only [Act.put, List.setIfInBounds_toArray, List.set_cons_zero, List.set_cons_succ]; rfl)
                refine wpAnyH_op (i := 3) (some 81) (v := ?v3f) (a' := ?a3f) rfl rfl (by kernel_rfl) (by kernel_rfl) (by kernel_rfl) (fun _ _ _ h => h) rfl (fun wz hwz => ?h3f) ?b3f hS ?_
                case h3f => (go_simp; try with_reducible rfl)
                case b3f => (simp only [Act.put, List.setIfInBounds_toArray, List.set_cons_zero, List.set_cons_succ]; rfl)
                refine wpAnyH_op (i := 5) (some 83) (v := ?v5f) (a' := ?a5f) rfl rfl (by kernel_rfl) (by kernel_rfl) (by kernel_rfl) (fun _ _ _ h => h) rfl (fun wz hwz => ?h5f) ?b5f hS ?_
                case h5f => (go_simp; try with_reducible rfl)
                case b5f => (simp only [Act.put, List.setIfInBounds_toArray, List.set_cons_zero, List.set_cons_succ]; rfl)
                refine wpAnyH_op (i := 6) (some 84) (v := ?v6f) (a' := ?a6f) rfl rfl (by kernel_rfl) (by kernel_rfl) (by kernel_rfl) (fun _ _ _ h => h) rfl (fun wz hwz => ?h6f) ?b6f hS ?_
                case h6f => (go_simp; try with_reducible rfl)
                case b6f => (simp only [Act.put, List.setIfInBounds_toArray, List.set_cons_zero, List.set_cons_succ]; rfl)
                refine wpAnyH_op (i := 7) (some 85) (v := ?v7f) (a' := ?a7f) rfl rfl (by kernel_rfl) (by kernel_rfl) (by kernel_rfl) (fun _ _ _ h => h) rfl (fun wz hwz => ?h7f) ?b7f hS ?_
                case h7f => (have o1 := hwz.1.cell 1; simp only [opCells, List.getElem?_toArray, List.getElem?_cons_zero, List.getElem?_cons_succ] at o1; go_simp; try with_reducible rfl)
                case b7f => (simp only [Act.put, List.setIfInBounds_toArray, List.set_cons_zero, List.set_cons_succ]; rfl)
                refine wpAnyH_op (i := 8) (some 86) (v := ?v8f) (a' := ?a8f) rfl rfl (by kernel_rfl) (by kernel_rfl) (by kernel_rfl) (fun _ _ _ h => h) rfl (fun wz hwz => ?h8f) ?b8f hS ?_
                case h8f => (go_simp; try with_reducible rfl)
                case b8f => (simp only [Act.put, List.setIfInBounds_toArray, List.set_cons_zero, List.set_cons_succ]; rfl)
                refine wpAnyH_op (i := 9) (some 87) (v := ?v9f) (a' := ?a9f) rfl rfl (by kernel_rfl) (by kernel_rfl) (by kernel_rfl) (fun _ _ _ h => h) rfl (fun wz hwz => ?h9f) ?b9f hS ?_
                case h9f => (have q5 := hwz.2.convm hl 64 (by omega); go_simp; try with_reducible rfl)
                case b9f => (simp only [Act.put, List.setIfInBounds_toArray, List.set_cons_zero, List.set_cons_succ]; rfl)
                refine wpAnyH_call (i := 4) rfl (by kernel_rfl) rfl ?run4f (HMd.out.dWrite ii W0.heap.size 64 64 (s.take 64) hlm (HRd.out.cellsm 64) HRd.out.lt hwl) ?_
                case run4f => go_simp
                rintro e w4 ⟨rfl, hM4, hK4⟩
                have HM4 := Lib.hid hM4
                have hS4 := And.intro (hK4.blk (.inl rfl) hS.1) (hK4.blk (.inr rfl) hS.2)
                clear hM4 hK4
                refine ⟨_, rfl, hS4, ?_⟩
                refine wpAnyH_at (some 82) (a' := ?a4f) rfl ?b4f ?_
                case b4f => (simp only [Act.put, List.setIfInBounds_toArray, List.set_cons_zero, List.set_cons_succ]; rfl)
                refine wpAnyH_call (i := 10) rfl (by kernel_rfl) rfl ?run10f (HM4.out.rWrite ii 64 (s.take 64) hlm hll hwl) ?_
                case run10f => go_simp
                rintro e w5 ⟨rfl, hM5, hK5⟩
                have HM5 := Lib.hid hM5
                have hS5 := And.intro (hK5.blk (.inl rfl) hS4.1) (hK5.blk (.inr rfl) hS4.2)
                clear hM5 hK5
                refine ⟨_, rfl, hS5, ?_⟩
                refine wpAnyH_at (some 88) (a' := ?a10f) rfl ?b10f ?_
                case b10f => (simp only [Act.put, List.setIfInBounds_toArray, List.set_cons_zero, List.set_cons_succ]; rfl)
                refine wpAnyH_op (i := 11) (some 89) (v := ?v11f) (a' := ?a11f) rfl rfl (by kernel_rfl) (by kernel_rfl) (by kernel_rfl) (fun _ _ _ h => h) rfl (fun wz hwz => ?h11f) ?b11f hS5 ?_
                case h11f => (go_simp; try with_reducible rfl)
                case b11f => (simp only [Act.put, List.setIfInBounds_toArray, List.set_cons_zero, List.set_cons_succ]; rfl)
                refine wpAnyH_done (by kernel_rfl) ?_ _
                dsimp only [OnlyNormal]
                have HG5 := Lib.hid (hG.out.wrote ii (s.take 64))
                have hww := DS.waits_wrote S ii (s.take 64)
                obtain ⟨x0, hx0, hx1, cx, fx⟩ := Row64.cell0 (s := s) hS5.2 hl
                have HS5 := Lib.hid hS5
                clear hS hS4 hS5 HMd HM4 HBd HRd hG
                generalize S.wcode ii 64 = cd at *
                generalize S.wrote ii (s.take 64) = S5 at *
                go_wp2_with fail
                refine ((Lib.hid (HM5.out.touch0 (g := W0.heap.size) (.inr rfl) _)).out.same HG5 (by omega)).mono ?_
                rintro e w9 ⟨rfl, hM9⟩
                have HM9 := Lib.hid hM9
                clear hM9
                go_wp2
                go_roundw
                case rel => exact ⟨k + 1, _, by omega, by omega, by go_num, HM9, HG5, by omega⟩
                case measure => simp [intOf]; omega
              · go_wp2
                clear o3
                have HBd : Hid (Blk w3.drew wr.heap.size 50 _) := HB3.out.drew
                have HRd : Hid (Row64 w3.drew W0.heap.size s) := HR3.out
                have HMd := Lib.hid (HM3.out.new' ((Fr.refl Nob w3).drew))
                have hlm : (s.take 63).length = 63 := by rw [List.length_take]; omega
                refine wp_region_quietly (fun W => Blk W wr.heap.size 50 (opCells 0 ii nn true (.slice kA keep.length kc)) ∧ Row64 W W0.heap.size s) (by kernel_rfl) ?_
                have hS : Blk w3.drew wr.heap.size 50 (opCells 0 ii nn true (.slice kA keep.length kc)) ∧ Row64 w3.drew W0.heap.size s := ⟨HBd.out, HRd.out⟩
                refine wpAnyH_op (i := 0) (some 78) (v := ?v0t) (a' := ?a0t) rfl rfl (by kernel_rfl) (by kernel_rfl) (by kernel_rfl) (fun _ _ _ h => h) rfl (fun wz hwz => ?h0t) ?b0t hS ?_
                case h0t => (go_simp; try with_reducible rfl)
                case b0t => (simp only [Act.put, List.setIfInBounds_toArray, List.set_cons_zero, List.set_cons_succ]; rfl)
                refine wpAnyH_op (i := 1) (some 79) (v := ?v1t) (a' := ?a1t) rfl rfl (by kernel_rfl) (by kernel_rfl) (by kernel_rfl) (fun _ _ _ h => h) rfl (fun wz hwz => ?h1t) ?b1t hS ?_
                case h1t => (go_simp; try with_reducible rfl)
                case b1t => (simp only [Act.put, List.setIfInBounds_toArray, List.set_cons_zero, List.set_cons_succ]; rfl)
                refine wpAnyH_op (i := 2) (some 80) (v := ?v2t) (a' := ?a2t) rfl rfl (by kernel_rfl) (by kernel_rfl) (by kernel_rfl) (fun _ _ _ h => h) rfl (fun wz hwz => ?h2t) ?b2t hS ?_
                case h2t => (have o1 := hwz.1.cell 1; simp only [opCells, List.getElem?_toArray, List.getElem?_cons_zero, List.getElem?_cons_succ] at o1; go_simp; try with_reducible rfl)
                case b2t => (simp only [Act.put, List.setIfInBounds_toArray, List.set_cons_zero, List.set_cons_succ]; rfl)
                refine wpAnyH_op (i := 3) (some 81) (v := ?v3t) (a' := ?a3t) rfl rfl (by kernel_rfl) (by kernel_rfl) (by kernel_rfl) (fun _ _ _ h => h) rfl (fun wz hwz => ?h3t) ?b3t hS ?_
                case h3t => (go_simp; try with_reducible rfl)
                case b3t => (simp only [Act.put, List.setIfInBounds_toArray, List.set_cons_zero, List.set_cons_succ]; rfl)
                refine wpAnyH_op (i := 5) (some 83) (v := ?v5t) (a' := ?a5t) rfl rfl (by kernel_rfl) (by kernel_rfl) (by kernel_rfl) (fun _ _ _ h => h) rfl (fun wz hwz => ?h5t) ?b5t hS ?_
                case h5t => (go_simp; try with_reducible rfl)
                case b5t => (simp only [Act.put, List.setIfInBounds_toArray, List.set_cons_zero, List.set_cons_succ]; rfl)
                refine wpAnyH_op (i := 6) (some 84) (v := ?v6t) (a' := ?a6t) rfl rfl (by kernel_rfl) (by kernel_rfl) (by kernel_rfl) (fun _ _ _ h => h) rfl (fun wz hwz => ?h6t) ?b6t hS ?_
                case h6t => (go_simp; try with_reducible rfl)
                case b6t => (simp only [Act.put, List.setIfInBounds_toArray, List.set_cons_zero, List.set_cons_succ]; rfl)
                refine wpAnyH_op (i := 7) (some 85) (v := ?v7t) (a' := ?a7t) rfl rfl (by kernel_rfl) (by kernel_rfl) (by kernel_rfl) (fun _ _ _ h => h) rfl (fun wz hwz => ?h7t) ?b7t hS ?_
                case h7t => (have o1 := hwz.1.cell 1; simp only [opCells, List.getElem?_toArray, List.getElem?_cons_zero, List.getElem?_cons_succ] at o1; go_simp; try with_reducible rfl)
                case b7t => (simp only [Act.put, List.setIfInBounds_toArray, List.set_cons_zero, List.set_cons_succ]; rfl)
                refine wpAnyH_op (i := 8) (some 86) (v := ?v8t) (a' := ?a8t) rfl rfl (by kernel_rfl) (by kernel_rfl) (by kernel_rfl) (fun _ _ _ h => h) rfl (fun wz hwz => ?h8t) ?b8t hS ?_
                case h8t => (go_simp; try with_reducible rfl)
                case b8t => (simp only [Act.put, List.setIfInBounds_toArray, List.set_cons_zero, List.set_cons_succ]; rfl)
                refine wpAnyH_op (i := 9) (some 87) (v := ?v9t) (a' := ?a9t) rfl rfl (by kernel_rfl) (by kernel_rfl) (by kernel_rfl) (fun _ _ _ h => h) rfl (fun wz hwz => ?h9t) ?b9t hS ?_
                case h9t => (have q5 := hwz.2.convm hl 63 (by omega); go_simp; try with_reducible rfl)
                case b9t => (simp only [Act.put, List.setIfInBounds_toArray, List.set_cons_zero, List.set_cons_succ]; rfl)
                refine wpAnyH_call (i := 4) rfl (by kernel_rfl) rfl ?run4t (HMd.out.dWrite ii W0.heap.size 63 64 (s.take 63) hlm (HRd.out.cellsm 63) HRd.out.lt hwl) ?_
                case run4t => go_simp
                rintro e w4 ⟨rfl, hM4, hK4⟩
                have HM4 := Lib.hid hM4
                have hS4 := And.intro (hK4.blk (.inl rfl) hS.1) (hK4.blk (.inr rfl) hS.2)
                clear hM4 hK4
                refine ⟨_, rfl, hS4, ?_⟩
                refine wpAnyH_at (some 82) (a' := ?a4t) rfl ?b4t ?_
                case b4t => (simp only [Act.put, List.setIfInBounds_toArray, List.set_cons_zero, List.set_cons_succ]; rfl)
                refine wpAnyH_call (i := 10) rfl (by kernel_rfl) rfl ?run10t (HM4.out.rWrite ii 63 (s.take 63) hlm hll hwl) ?_
                case run10t => go_simp
                rintro e w5 ⟨rfl, hM5, hK5⟩
                have HM5 := Lib.hid hM5
                have hS5 := And.intro (hK5.blk (.inl rfl) hS4.1) (hK5.blk (.inr rfl) hS4.2)
                clear hM5 hK5
                refine ⟨_, rfl, hS5, ?_⟩
                refine wpAnyH_at (some 88) (a' := ?a10t) rfl ?b10t ?_
                case b10t => (simp only [Act.put, List.setIfInBounds_toArray, List.set_cons_zero, List.set_cons_succ]; rfl)
                refine wpAnyH_op (i := 11) (some 89) (v := ?v11t) (a' := ?a11t) rfl rfl (by kernel_rfl) (by kernel_rfl) (by kernel_rfl) (fun _ _ _ h => h) rfl (fun wz hwz => ?h11t) ?b11t hS5 ?_
                case h11t => (go_simp; try with_reducible rfl)
                case b11t => (simp only [Act.put, List.setIfInBounds_toArray, List.set_cons_zero, List.set_cons_succ]; rfl)
                refine wpAnyH_done (by kernel_rfl) ?_ _
                dsimp only [OnlyNormal]
                have HG5 := Lib.hid (hG.out.wrote ii (s.take 63))
                have hww := DS.waits_wrote S ii (s.take 63)
                obtain ⟨x0, hx0, hx1, cx, fx⟩ := Row64.cell0 (s := s) hS5.2 hl
                have HS5 := Lib.hid hS5
                clear hS hS4 hS5 HMd HM4 HBd HRd hG
                generalize S.wcode ii 63 = cd at *
                generalize S.wrote ii (s.take 63) = S5 at *
                go_wp2_with fail
                refine ((Lib.hid (HM5.out.touch0 (g := W0.heap.size) (.inr rfl) _)).out.same HG5 (by omega)).mono ?_
                rintro e w9 ⟨rfl, hM9⟩
                have HM9 := Lib.hid hM9
                clear hM9
                go_wp2
                go_roundw
                case rel => exact ⟨k + 1, _, by omega, by omega, by go_num, HM9, HG5, by omega⟩
                case measure => simp [intOf]; omega
            · subst hkd
              obtain ⟨W0, hW0⟩ : ∃ W0, wr.alloc (.cells #[.int .i64 1, .int .i64 ii, .int .i64 nn, .bool sh, .slice kA keep.length kc] 50) = W0 := ⟨_, rfl⟩
              rw [hW0] at HMo HBo
              have o0 := HBo.out.cell 0
              have o1 := HBo.out.cell 1
              have o2 := HBo.out.cell 2
              have o3 := HBo.out.cell 3
              have o4 := HBo.out.cell 4
              simp only [List.getElem?_toArray, List.getElem?_cons_zero, List.getElem?_cons_succ] at o0 o1 o2 o3 o4
              go_wp2_with fail
              clear hW0 c0 c1 c2 c3 c4 o0 o1 o2 o3 o4
              by_cases hb : S.wrong ii = 0
              · obtain ⟨k', s, hii, hs, hl, hd⟩ := HMo.out.good ii hb
                subst hii
                have Hd := Lib.hid hd
                have Hs := Lib.hid hs
                clear hb hd hs
                refine (HMo.out.dRead k' s Hd.out Hs.out).mono ?_
                rintro e w3 ⟨rfl, hr3, hf3⟩
                have HM3 : Hid (PlayMem wc w3 p q S S (fun b => b = wr.heap.size ∨ b = W0.heap.size)) := HMo.out.new hf3 _ (fun b hb => hb.imp id (fun hb => by subst hb; exact ⟨Nat.le_refl _, hr3.lt⟩))
                have HB3 := Lib.hid (HBo.out.fr hf3 (fun h => h))
                have HR3 := Lib.hid hr3
                clear hr3 hf3
                have o1 := HB3.out.cell 1
                simp only [List.getElem?_toArray, List.getElem?_cons_zero, List.getElem?_cons_succ] at o1
                go_wp2_with fail
                clear o1
                refine (HM3.out.rRead k' s Hd.out hG.out Hs.out hwl).mono ?_
                rintro e w4 ⟨rfl, rfl⟩
                have q5 := Row64.conv HR3.out hl
                obtain ⟨x0, hx0, hx1, cx, fx⟩ := HR3.out.cell0 hl
                go_wp2_with fail
                refine ((Lib.hid (HM3.out.touch0 (g := W0.heap.size) (.inr rfl) _)).out.same hG (by omega)).mono ?_
                rintro e w9 ⟨rfl, hM9⟩
                have HM9 := Lib.hid hM9
                clear hM9
                go_wp2
                go_roundw
                case rel => exact ⟨k + 1, _, by omega, by omega, by go_num, HM9, hG, by omega⟩
                case measure => simp [intOf]; omega
              · have hrd := HMo.out.dReadBad ii hb
                have hrr := HMo.out.rReadBad ii hb
                have hb2 : (S.wrong ii != S.wrong ii) = false := by simp
                have HRD := Lib.hid hrd
                have HRR := Lib.hid hrr
                clear hrd hrr hb hb2
                generalize S.wrong ii = e0 at *
                refine HRD.out.mono ?_
                rintro e w3 ⟨rfl, rfl⟩
                have o1 := HBo.out.cell 1
                simp only [List.getElem?_toArray, List.getElem?_cons_zero, List.getElem?_cons_succ] at o1
                go_wp2_with fail
                clear o1
                refine HRR.out.mono ?_
                rintro e w4 ⟨rfl, rfl⟩
                have q5 := conv_nil W0
                go_wp2_with fail
                refine (HMo.out.same hG (by omega)).mono ?_
                rintro e w9 ⟨rfl, hM9⟩
                have HM9 := Lib.hid hM9
                clear hM9
                go_wp2
                go_roundw
                case rel => exact ⟨k + 1, _, by omega, by omega, by go_num, HM9, hG, by omega⟩
                case measure => simp [intOf]; omega
            · subst hkd
              obtain ⟨W0, hW0⟩ : ∃ W0, wr.alloc (.cells #[.int .i64 2, .int .i64 ii, .int .i64 nn, .bool sh, .slice kA keep.length kc] 50) = W0 := ⟨_, rfl⟩
              rw [hW0] at HMo HBo
              have o0 := HBo.out.cell 0
              have o1 := HBo.out.cell 1
              have o2 := HBo.out.cell 2
              have o3 := HBo.out.cell 3
              have o4 := HBo.out.cell 4
              simp only [List.getElem?_toArray, List.getElem?_cons_zero, List.getElem?_cons_succ] at o0 o1 o2 o3 o4
              go_wp2_with fail
              clear hW0 c0 c1 c2 c3 c4 o0 o1 o2 o3 o4
              refine (HMo.out.dFlush hwl).mono ?_
              rintro e w3 ⟨rfl, hM3, hK3⟩
              have HM3 := Lib.hid hM3
              clear hM3 hK3
              go_wp2_with fail
              refine (HM3.out.rFlush hwl).mono ?_
              rintro e w4 ⟨rfl, hM4, hK4⟩
              have HM4 := Lib.hid hM4
              clear hM4 hK4
              have hwf := DS.waits_flushed S
              have HG4 := Lib.hid (Good.flushed hG.out)
              clear hG HMo HBo HM3
              generalize S.fcode = fc at *
              generalize S.flushed = S4 at *
              go_wp2_with fail
              refine (HM4.out.same HG4 (by omega)).mono ?_
              rintro e w9 ⟨rfl, hM9⟩
              have HM9 := Lib.hid hM9
              clear hM9
              go_wp2
              go_roundw
              case rel => exact ⟨k + 1, _, by omega, by omega, by go_num, HM9, HG4, by omega⟩
              case measure => simp [intOf]; omega
            · subst hkd
              obtain ⟨W0, hW0⟩ : ∃ W0, wr.alloc (.cells #[.int .i64 3, .int .i64 ii, .int .i64 nn, .bool sh, .slice kA keep.length kc] 50) = W0 := ⟨_, rfl⟩
              rw [hW0] at HMo HBo
              have o0 := HBo.out.cell 0
              have o1 := HBo.out.cell 1
              have o2 := HBo.out.cell 2
              have o3 := HBo.out.cell 3
              have o4 := HBo.out.cell 4
              simp only [List.getElem?_toArray, List.getElem?_cons_zero, List.getElem?_cons_succ] at o0 o1 o2 o3 o4
              go_wp2_with fail
              clear hW0 c0 c1 c2 c3 c4 o0 o1 o2 o3 o4
              refine (HMo.out.dCrash kA kc keep HK.out hkr hwl).mono ?_
              rintro e w3 ⟨rfl, hM3, hK3⟩
              have HM3 := Lib.hid hM3
              have HB3 := Lib.hid (hK3.blk rfl HBo.out)
              clear hM3 hK3
              have o4 := HB3.out.cell 4
              simp only [List.getElem?_toArray, List.getElem?_cons_zero, List.getElem?_cons_succ] at o4
              go_wp2_with fail
              clear o4
              refine (HM3.out.rCrash kA kc keep HK.out hkr hwl).mono ?_
              rintro e w4 ⟨rfl, hM4, hK4⟩
              have HM4 := Lib.hid hM4
              clear hM4 hK4
              have HG4 := Lib.hid (Good.crash (S := S) keep)
              have hwf : (S.crash keep).waits.length = 0 := rfl
              clear hG HMo HBo HM3 HB3
              generalize S.crash keep = S4 at *
              go_wp2_with fail
              refine (HM4.out.same HG4 (by omega)).mono ?_
              rintro e w9 ⟨rfl, hM9⟩
              have HM9 := Lib.hid hM9
              clear hM9
              go_wp2
              go_roundw
              case rel => exact ⟨k + 1, _, by omega, by omega, by go_num, HM9, HG4, by omega⟩
              case measure => simp [intOf]; omega
            · subst hkd
              obtain ⟨W0, hW0⟩ : ∃ W0, wr.alloc (.cells #[.int .i64 4, .int .i64 ii, .int .i64 nn, .bool sh, .slice kA keep.length kc] 50) = W0 := ⟨_, rfl⟩
              rw [hW0] at HMo HBo
              have o0 := HBo.out.cell 0
              have o1 := HBo.out.cell 1
              have o2 := HBo.out.cell 2
              have o3 := HBo.out.cell 3
              have o4 := HBo.out.cell 4
              simp only [List.getElem?_toArray, List.getElem?_cons_zero, List.getElem?_cons_succ] at o0 o1 o2 o3 o4
              go_wp2_with fail
              clear hW0 c0 c1 c2 c3 c4 o0 o1 o2 o3 o4
              refine (HMo.out.dFuse nn hn0 hn1).mono ?_
              rintro e w3 ⟨rfl, hM3, hK3⟩
              have HM3 := Lib.hid hM3
              have HB3 := Lib.hid (hK3.blk rfl HBo.out)
              clear hM3 hK3
              have o2 := HB3.out.cell 2
              simp only [List.getElem?_toArray, List.getElem?_cons_zero, List.getElem?_cons_succ] at o2
              go_wp2_with fail
              clear o2
              refine (HM3.out.rSet nn hn0 hn1).mono ?_
              rintro e w4 ⟨rfl, hM4, hK4⟩
              have HM4 := Lib.hid hM4
              clear hM4 hK4
              have HG4 := Lib.hid (hG.out.set nn)
              have hwf : (S.set nn).waits.length = S.waits.length := rfl
              clear hG HMo HBo HM3 HB3
              generalize S.set nn = S4 at *
              go_wp2_with fail
              refine (HM4.out.same HG4 (by omega)).mono ?_
              rintro e w9 ⟨rfl, hM9⟩
              have HM9 := Lib.hid hM9
              clear hM9
              go_wp2
              go_roundw
              case rel => exact ⟨k + 1, _, by omega, by omega, by go_num, HM9, HG4, by omega⟩
              case measure => simp [intOf]; omega
            · subst hkd
              obtain ⟨W0, hW0⟩ : ∃ W0, wr.alloc (.cells #[.int .i64 5, .int .i64 ii, .int .i64 nn, .bool sh, .slice kA keep.length kc] 50) = W0 := ⟨_, rfl⟩
              rw [hW0] at HMo HBo
              have o0 := HBo.out.cell 0
              have o1 := HBo.out.cell 1
              have o2 := HBo.out.cell 2
              have o3 := HBo.out.cell 3
              have o4 := HBo.out.cell 4
              simp only [List.getElem?_toArray, List.getElem?_cons_zero, List.getElem?_cons_succ] at o0 o1 o2 o3 o4
              go_wp2_with fail
              clear hW0 c0 c1 c2 c3 c4 o0 o1 o2 o3 o4
              refine (HMo.out.copy hwl).mono ?_
              rintro e w3 ⟨cc, rfl, hA3⟩
              have HA3 := Lib.hid hA3
              clear hA3
              go_wp2_with fail
              refine (Sector_ok 99 _ (by omega) (by omega)).mono ?_
              rintro e w4 ⟨rfl, hr4, hf4⟩
              have HA4 := Lib.hid (HA3.out.new hf4)
              have HR4 := Lib.hid hr4
              clear hr4 hf4
              have hww := DS.waits_wrote S 0 (sect 99)
              have hwf := DS.waits_flushed (S.wrote 0 (sect 99))
              go_wp2_with fail
              refine (HA4.out.write 0 w3.heap.size 64 64 (sect 99) (sect_length 99) (fun j u hu => World.news_of_block HR4.out j u (by simpa using hu)) HR4.out.lt hwl).mono ?_
              rintro e w5 ⟨rfl, hA5⟩
              have HA5 := Lib.hid hA5
              clear hA5 HR4
              generalize S.wcode 0 64 = c5 at *
              generalize S.wrote 0 (sect 99) = S5 at *
              go_wp2_with fail
              refine (HA5.out.flush (by omega)).mono ?_
              rintro e w6 ⟨rfl, hA6⟩
              have HA6 := Lib.hid hA6
              clear hA6
              generalize S5.fcode = c6 at *
              generalize S5.flushed = S6 at *
              go_wp2_with fail
              refine (HA6.out.crash (by omega)).mono ?_
              rintro e w7 ⟨rfl, hA7⟩
              have HM7 := Lib.hid (HMo.out.new' hA7.frame)
              clear hA7 HA3 HA4 HA5 HA6 HMo HBo
              go_wp2_with fail
              refine (HM7.out.same hG (by omega)).mono ?_
              rintro e w9 ⟨rfl, hM9⟩
              have HM9 := Lib.hid hM9
              clear hM9
              go_wp2
              go_roundw
              case rel => exact ⟨k + 1, _, by omega, by omega, by go_num, HM9, hG, by omega⟩
              case measure => simp [intOf]; omega
            · obtain ⟨e0, e1, e2, e3, e4, e5⟩ := hkd
              have e0 : (kd == 0) = false := by simp; omega
              have e1 : (kd == 1) = false := by simp; omega
              have e2 : (kd == 2) = false := by simp; omega
              have e3 : (kd == 3) = false := by simp; omega
              have e4 : (kd == 4) = false := by simp; omega
              have e5 : (kd == 5) = false := by simp; omega
              obtain ⟨W0, hW0⟩ : ∃ W0, wr.alloc (.cells #[.int .i64 kd, .int .i64 ii, .int .i64 nn, .bool sh, .slice kA keep.length kc] 50) = W0 := ⟨_, rfl⟩
              rw [hW0] at HMo HBo
              have o0 := HBo.out.cell 0
              have o1 := HBo.out.cell 1
              have o2 := HBo.out.cell 2
              have o3 := HBo.out.cell 3
              have o4 := HBo.out.cell 4
              simp only [List.getElem?_toArray, List.getElem?_cons_zero, List.getElem?_cons_succ] at o0 o1 o2 o3 o4
              go_wp2_with fail
              clear hW0 c0 c1 c2 c3 c4 o0 o1 o2 o3 o4
              go_wp2_with fail
              refine (HMo.out.same hG (by omega)).mono ?_
              rintro e w9 ⟨rfl, hM9⟩
              have HM9 := Lib.hid hM9
              clear hM9
              go_wp2
              go_roundw
              case rel => exact ⟨k + 1, _, by omega, by omega, by go_num, HM9, hG, by omega⟩
              case measure => simp [intOf]; omega
          · have hnk : ¬ ((k : Int) < (ops.length : Int)) ∨ ((k : Int) < (ops.length : Int) ∧ ¬ ((k : Int) < 60)) := by omega
            clear hlt
            rcases hnk with hnk | hnk
            all_goals
              go_wp2_with fail
              refine (awake2_any _).mono ?_
              rintro e w5 ⟨rfl, hf5⟩
              have hfin := hM.out.frame.trans hf5
              clear hf5
              go_wp2
              go_ret
              exact ⟨rfl, hfin⟩
end Go.Proofs.Ytieiopeblleheaa
