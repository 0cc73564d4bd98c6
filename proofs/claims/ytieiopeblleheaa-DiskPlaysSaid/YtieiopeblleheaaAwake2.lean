/-
  What the statements of layer 2 ask at their end: that a small disk does as the document says.
-/
import Derived.Test.YtieiopeblleheaaDiskApi
import Derived.BigQuiet
import Derived.Deep.RegionWith
import Derived.Test.YtieiopeblleheaaRoundRegion
namespace Go.Proofs.Ytieiopeblleheaa
set_option linter.unusedSimpArgs false
set_option linter.unusedVariables false
open Go.RowKit

set_option maxHeartbeats 1000000 in
set_option maxRecDepth 100000 in
theorem awake2_any (w : World) : Calls Try.prog 18 #[] w fun e w' => e = .returned (.bool true) ∧ Fr Nob w w' := by
  go_enter Try.func18, Try.ntmps18
  go_wp2_with fail
  refine (New_ok 8 _ (by omega) (by omega)).mono ?_
  rintro e w1 ⟨p, rfl, hp, hD1, hf1⟩
  have HD1 := Lib.hid hD1
  have HF1 := Lib.hid hf1
  clear hD1 hf1
  go_wp2_with fail
  refine (Sector_ok 7 _ (by omega) (by omega)).mono ?_
  rintro e w2 ⟨rfl, hr2, hf2⟩
  have HR2 := Lib.hid hr2
  have HF2 := Lib.hid hf2
  clear hr2 hf2
  go_wp2_with fail
  have hlen8 : Hid (((DS.new (8 : Int).toNat)).now.length = 8) := by show _ = _; simp [DS.new]
  refine (Write_ok 0 w1.heap.size 64 (sect 7) (HD1.out.new HF2.out) (by omega) (by rw [hlen8.out]; omega) rfl (sect_length 7) HR2.out (by simp [DS.new])).mono ?_
  rintro e w3 ⟨rfl, hD3, hf3⟩
  rw [DS.wr_off (by simp [DS.new])] at hD3
  have HD3 := Lib.hid hD3
  have HF3 := Lib.hid hf3
  clear hD3 hf3
  go_wp2_with fail
  refine (Read_ok 0 (sect 7) HD3.out (by omega) rfl (by simp [DS.wr0, DS.new])).mono ?_
  rintro e w4 ⟨rfl, hr4, hf4⟩
  have HR4 := Lib.hid hr4
  have HF4 := Lib.hid hf4
  clear hr4 hf4
  go_wp2_with fail
  refine (Crash_any none 0 [] (HD3.out.new HF4.out) (IntsOut.nil _ _ _) (by simp) (by simp [DS.wr0, DS.new])).mono ?_
  rintro e w5 ⟨rfl, hD5, hf5⟩
  have HD5 := Lib.hid hD5
  have HF5 := Lib.hid hf5
  clear hD5 hf5
  go_wp2_with fail
  refine (Read_ok 0 nought HD5.out (by omega) rfl (by simp [DS.crash, DS.wr0, DS.new, chosen_none, setAll_nil])).mono ?_
  rintro e w6 ⟨rfl, hr6, hf6⟩
  have HR6 := Lib.hid hr6
  have HF6 := Lib.hid hf6
  clear hr6 hf6
  go_wp2_with fail
  have hn5 : ¬ (fun b => w.heap.size ≤ b ∧ b < w1.heap.size) w3.heap.size := by have := HF2.out.size; have := HF3.out.size; simp only [not_and, Nat.not_lt]; omega
  have R4 : Row64 w5 w3.heap.size (sect 7) := HR4.out.fr HF5.out (by
    rintro (h | ⟨h1, h2⟩)
    · exact hn5 h
    · omega)
  have R4' : Row64 w6 w3.heap.size (sect 7) := R4.fr HF6.out (fun h => h)
  have HR4' := Lib.hid R4'
  clear R4 R4' hn5
  generalize hs7 : sect 7 = s7 at *
  generalize hnt : nought = nt at *
  have HS7 := Lib.hid hs7
  have HL7 : Hid (s7.length = 64) := by show _ = _; rw [← hs7]; exact sect_length 7
  have HLn : Hid (nt.length = 64) := by show _ = _; rw [← hnt]; exact nought_length
  have HNT := Lib.hid hnt
  clear hs7 hnt
  refine wp_region_quietly (fun W => Fr Nob w6 W) (by kernel_rfl) ?_
  have hS : Fr Nob w6 w6.drew := (Fr.refl _ w6).drew
  refine wpAnyH_op (i := 0) (some 33) (v := ?v0) (a' := ?a0) rfl rfl (by kernel_rfl) (by kernel_rfl) (by kernel_rfl) (fun _ _ _ h => h) rfl (fun wz hz => ?h0) ?b0 hS ?_
  case h0 => (go_simp; try with_reducible rfl)
  case b0 => (simp only [Act.put, List.setIfInBounds_toArray, List.set_cons_zero, List.set_cons_succ]; rfl)
  refine wpAnyH_op (i := 1) (some 34) (v := ?v1) (a' := ?a1) rfl rfl (by kernel_rfl) (by kernel_rfl) (by kernel_rfl) (fun _ _ _ h => h) rfl (fun wz hz => ?h1) ?b1 hS ?_
  case h1 => (go_simp; try with_reducible rfl)
  case b1 => (simp only [Act.put, List.setIfInBounds_toArray, List.set_cons_zero, List.set_cons_succ]; rfl)
  refine wpAnyH_op (i := 2) (some 35) (v := ?v2) (a' := ?a2) rfl rfl (by kernel_rfl) (by kernel_rfl) (by kernel_rfl) (fun _ _ _ h => h) rfl (fun wz hz => ?h2) ?b2 hS ?_
  case h2 => (go_simp; try with_reducible rfl)
  case b2 => (simp only [Act.put, List.setIfInBounds_toArray, List.set_cons_zero, List.set_cons_succ]; rfl)
  refine wpAnyH_op (i := 3) (some 36) (v := ?v3) (a' := ?a3) rfl rfl (by kernel_rfl) (by kernel_rfl) (by kernel_rfl) (fun _ _ _ h => h) rfl (fun wz hz => ?h3) ?b3 hS ?_
  case h3 => (go_simp; try with_reducible rfl)
  case b3 => (simp only [Act.put, List.setIfInBounds_toArray, List.set_cons_zero, List.set_cons_succ]; rfl)
  refine wpAnyH_op (i := 4) (some 37) (v := ?v4) (a' := ?a4) rfl rfl (by kernel_rfl) (by kernel_rfl) (by kernel_rfl) (fun _ _ _ h => h) rfl (fun wz hz => ?h4) ?b4 hS ?_
  case h4 => (go_simp; try with_reducible rfl)
  case b4 => (simp only [Act.put, List.setIfInBounds_toArray, List.set_cons_zero, List.set_cons_succ]; rfl)
  refine wpAnyH_op (i := 5) (some 38) (v := ?v5) (a' := ?a5) rfl rfl (by kernel_rfl) (by kernel_rfl) (by kernel_rfl) (fun _ _ _ h => h) rfl (fun wz hz => ?h5) ?b5 hS ?_
  case h5 => (go_simp; try with_reducible rfl)
  case b5 => (simp only [Act.put, List.setIfInBounds_toArray, List.set_cons_zero, List.set_cons_succ]; rfl)
  refine wpAnyH_op (i := 6) (some 39) (v := ?v6) (a' := ?a6) rfl rfl (by kernel_rfl) (by kernel_rfl) (by kernel_rfl) (fun _ _ _ h => h) rfl (fun wz hz => ?h6) ?b6 hS ?_
  case h6 => (go_simp; try with_reducible rfl)
  case b6 => (simp only [Act.put, List.setIfInBounds_toArray, List.set_cons_zero, List.set_cons_succ]; rfl)
  refine wpAnyH_op (i := 7) (some 40) (v := ?v7) (a' := ?a7) rfl rfl (by kernel_rfl) (by kernel_rfl) (by kernel_rfl) (fun _ _ _ h => h) rfl (fun wz hz => ?h7) ?b7 hS ?_
  case h7 => (go_simp; try with_reducible rfl)
  case b7 => (simp only [Act.put, List.setIfInBounds_toArray, List.set_cons_zero, List.set_cons_succ]; rfl)
  refine wpAnyH_op (i := 8) (some 41) (v := ?v8) (a' := ?a8) rfl rfl (by kernel_rfl) (by kernel_rfl) (by kernel_rfl) (fun _ _ _ h => h) rfl (fun wz hz => ?h8) ?b8 hS ?_
  case h8 => (go_simp; try with_reducible rfl)
  case b8 => (simp only [Act.put, List.setIfInBounds_toArray, List.set_cons_zero, List.set_cons_succ]; rfl)
  refine wpAnyH_op (i := 9) (some 42) (v := ?v9) (a' := ?a9) rfl rfl (by kernel_rfl) (by kernel_rfl) (by kernel_rfl) (fun _ _ _ h => h) rfl (fun wz hz => ?h9) ?b9 hS ?_
  case h9 => (go_simp; try with_reducible rfl)
  case b9 => (simp only [Act.put, List.setIfInBounds_toArray, List.set_cons_zero, List.set_cons_succ]; rfl)
  refine wpAnyH_op (i := 10) (some 43) (v := ?v10) (a' := ?a10) rfl rfl (by kernel_rfl) (by kernel_rfl) (by kernel_rfl) (fun _ _ _ h => h) rfl (fun wz hz => ?h10) ?b10 hS ?_
  case h10 => (go_simp; try with_reducible rfl)
  case b10 => (simp only [Act.put, List.setIfInBounds_toArray, List.set_cons_zero, List.set_cons_succ]; rfl)
  refine wpAnyH_op (i := 11) (some 44) (v := ?v11) (a' := ?a11) rfl rfl (by kernel_rfl) (by kernel_rfl) (by kernel_rfl) (fun _ _ _ h => h) rfl (fun wz hz => ?h11) ?b11 hS ?_
  case h11 => (go_simp; try with_reducible rfl)
  case b11 => (simp only [Act.put, List.setIfInBounds_toArray, List.set_cons_zero, List.set_cons_succ]; rfl)
  refine wpAnyH_op (i := 12) (some 45) (v := ?v12) (a' := ?a12) rfl rfl (by kernel_rfl) (by kernel_rfl) (by kernel_rfl) (fun _ _ _ h => h) rfl (fun wz hz => ?h12) ?b12 hS ?_
  case h12 => (have c4 := Row64.conv (HR4'.out.fr hz (fun h => h)) HL7.out; go_simp; try with_reducible rfl)
  case b12 => (simp only [Act.put, List.setIfInBounds_toArray, List.set_cons_zero, List.set_cons_succ]; rfl)
  refine wpAnyH_call (i := 13) rfl (by kernel_rfl) rfl ?run13 (Sector_ok 7 _ (by omega) (by omega)) ?_
  case run13 => go_simp
  rintro e w7 ⟨rfl, hr7, hf7⟩
  rw [HS7.out] at hr7
  have hS7 : Fr Nob w6 w7 := hS.trans hf7
  have HR7 : Hid (Row64 w7 w6.heap.size s7) := hr7
  clear hr7
  refine ⟨_, rfl, hS7, ?_⟩
  refine wpAnyH_at (some 46) (a' := ?a13) rfl ?b13 ?_
  case b13 => (simp only [Act.put, List.setIfInBounds_toArray, List.set_cons_zero, List.set_cons_succ]; rfl)
  refine wpAnyH_run (i := 14) (some 47) (v := ?v14) (a' := ?a14) rfl rfl (by kernel_rfl) rfl ?h14 ?b14 hS7 ?_
  case h14 => (have c7 := Row64.conv HR7.out HL7.out; go_simp; try with_reducible rfl)
  case b14 => (simp only [Act.put, List.setIfInBounds_toArray, List.set_cons_zero, List.set_cons_succ]; rfl)
  refine wpAnyH_op (i := 15) (some 48) (v := ?v15) (a' := ?a15) rfl rfl (by kernel_rfl) (by kernel_rfl) (by kernel_rfl) (fun _ _ _ h => h) rfl (fun wz hz => ?h15) ?b15 hS7 ?_
  case h15 => (go_simp; try with_reducible rfl)
  case b15 => (simp only [Act.put, List.setIfInBounds_toArray, List.set_cons_zero, List.set_cons_succ]; rfl)
  refine wpAnyH_op (i := 16) (some 49) (v := ?v16) (a' := ?a16) rfl rfl (by kernel_rfl) (by kernel_rfl) (by kernel_rfl) (fun _ _ _ h => h) rfl (fun wz hz => ?h16) ?b16 hS7 ?_
  case h16 => (go_simp; try with_reducible rfl)
  case b16 => (simp only [Act.put, List.setIfInBounds_toArray, List.set_cons_zero, List.set_cons_succ]; rfl)
  refine wpAnyH_op (i := 17) (some 50) (v := ?v17) (a' := ?a17) rfl rfl (by kernel_rfl) (by kernel_rfl) (by kernel_rfl) (fun _ _ _ h => h) rfl (fun wz hz => ?h17) ?b17 hS7 ?_
  case h17 => (go_simp; try with_reducible rfl)
  case b17 => (simp only [Act.put, List.setIfInBounds_toArray, List.set_cons_zero, List.set_cons_succ]; rfl)
  refine wpAnyH_op (i := 18) (some 51) (v := ?v18) (a' := ?a18) rfl rfl (by kernel_rfl) (by kernel_rfl) (by kernel_rfl) (fun _ _ _ h => h) rfl (fun wz hz => ?h18) ?b18 hS7 ?_
  case h18 => (go_simp; try with_reducible rfl)
  case b18 => (simp only [Act.put, List.setIfInBounds_toArray, List.set_cons_zero, List.set_cons_succ]; rfl)
  refine wpAnyH_op (i := 19) (some 52) (v := ?v19) (a' := ?a19) rfl rfl (by kernel_rfl) (by kernel_rfl) (by kernel_rfl) (fun _ _ _ h => h) rfl (fun wz hz => ?h19) ?b19 hS7 ?_
  case h19 => (have c6 := Row64.conv (HR6.out.fr hz (fun h => h)) HLn.out; go_simp; try with_reducible rfl)
  case b19 => (simp only [Act.put, List.setIfInBounds_toArray, List.set_cons_zero, List.set_cons_succ]; rfl)
  refine wpAnyH_call (i := 20) rfl (by kernel_rfl) rfl ?run20 (Nought_any _) ?_
  case run20 => go_simp
  rintro e w8 ⟨rfl, hf8⟩
  rw [HNT.out]
  have hS8 : Fr Nob w6 w8 := hS7.trans hf8
  refine ⟨_, rfl, hS8, ?_⟩
  refine wpAnyH_at (some 53) (a' := ?a20) rfl ?b20 ?_
  case b20 => (simp only [Act.put, List.setIfInBounds_toArray, List.set_cons_zero, List.set_cons_succ]; rfl)
  refine wpAnyH_op (i := 21) (some 54) (v := ?v21) (a' := ?a21) rfl rfl (by kernel_rfl) (by kernel_rfl) (by kernel_rfl) (fun _ _ _ h => h) rfl (fun wz hz => ?h21) ?b21 hS8 ?_
  case h21 => (go_simp; try with_reducible rfl)
  case b21 => (simp only [Act.put, List.setIfInBounds_toArray, List.set_cons_zero, List.set_cons_succ]; rfl)
  refine wpAnyH_op (i := 22) (some 55) (v := ?v22) (a' := ?a22) rfl rfl (by kernel_rfl) (by kernel_rfl) (by kernel_rfl) (fun _ _ _ h => h) rfl (fun wz hz => ?h22) ?b22 hS8 ?_
  case h22 => (go_simp; try with_reducible rfl)
  case b22 => (simp only [Act.put, List.setIfInBounds_toArray, List.set_cons_zero, List.set_cons_succ]; rfl)
  refine wpAnyH_op (i := 23) (some 0) (v := ?v23) (a' := ?a23) rfl rfl (by kernel_rfl) (by kernel_rfl) (by kernel_rfl) (fun _ _ _ h => h) rfl (fun wz hz => ?h23) ?b23 hS8 ?_
  case h23 => (go_simp; try with_reducible rfl)
  case b23 => (simp only [Act.put, List.setIfInBounds_toArray, List.set_cons_zero, List.set_cons_succ]; rfl)
  refine wpAnyH_done (by kernel_rfl) ?_ _
  dsimp only [OnlyNormal]
  go_wp2
  go_ret
  refine ⟨rfl, ?_⟩
  have g2 : Fr Nob w w2 := HF1.out.trans HF2.out
  have g3 : Fr Nob w w3 := g2.step HF3.out (fun i hi h => by omega)
  have g4 : Fr Nob w w4 := g3.trans HF4.out
  have g5 : Fr Nob w w5 := g4.step HF5.out (fun i hi h => by
    have := HF1.out.size; have := HF2.out.size
    rcases h with h | h <;> omega)
  exact (g5.trans HF6.out).trans hS8
end Go.Proofs.Ytieiopeblleheaa
