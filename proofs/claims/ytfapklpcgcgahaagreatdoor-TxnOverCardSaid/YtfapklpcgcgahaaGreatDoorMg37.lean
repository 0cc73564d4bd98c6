/-
  TxnOver, in one text.
-/
import Derived.Test.YtfapklpcgcgahaaGreatDoorMg36
import Derived.Deep.DeepCutAuto
/-
  TxnOver returns true.
-/
namespace Go.Proofs.YtfapklpcgcgahaaGreatDoor
set_option linter.unusedSimpArgs false
set_option linter.unusedVariables false
open Go.RowKit Go.Maps

def ovAt (x : Int) : Nat := (bits .and .i64 x 511).toNat % 400
def ovLong (x : Int) : Nat := (bits .and .i64 (x / 512) 63).toNat + 1
/-- The pages behind so many Writes. -/
def ovPg (xs : List Int) : Nat → Pgs
  | 0 => layP CZ 3 0 (byB 9 480)
  | k + 1 => layP (ovPg xs k) 3 (ovAt (xs.getD k 0)) (byB (k + 50) (ovLong (xs.getD k 0)))
theorem TB.le {T : TS} {d logn : Nat} {C B : Pgs} {svs : List (Nat × Nat × Pgs)} {n last undone : Nat} {q q' : Int} (h : TB T d logn C B svs n last undone q) (hq : q' ≤ q) : TB T d logn C B svs n last undone q' :=
  { h with room := by have := h.room; omega }
theorem and_nat (a : Int) (m : Nat) (hm : m < 4611686018427387904) : ∃ k : Nat, bits .and .i64 a m = (k : Int) ∧ k ≤ m := by
  refine ⟨(BitVec.ofInt 64 a &&& BitVec.ofInt 64 m).toNat, ?_, ?_⟩
  · show IntKind.i64.wrap ((BitVec.ofInt 64 a &&& BitVec.ofInt 64 m).toNat : Nat) = _
    have h : (BitVec.ofInt 64 a &&& BitVec.ofInt 64 m).toNat ≤ m := by
      rw [BitVec.toNat_and]
      refine Nat.le_trans Nat.and_le_right ?_
      rw [BitVec.toNat_ofInt]; omega
    rw [IntKind.wrap_i64]; omega
  · rw [BitVec.toNat_and]
    refine Nat.le_trans Nat.and_le_right ?_
    rw [BitVec.toNat_ofInt]; omega
def ovSv (xs : List Int) (k : Nat) : List (Nat × Nat × Pgs) := if k = 0 then [] else [(1, 1, ovPg xs 1)]
def ovL (k : Nat) : Nat := if k = 0 then 0 else 1
/-- A row of pages' texts that nothing of A touches. -/
def KeptRow (w : World) (base : Nat) (A : Nat → Prop) (v : Value) (P : Pgs) : Prop := Row6 w base v P ∧ ∀ b, v.ownBlock = some b → ¬ A b
theorem KeptRow.step {w w' : World} {base : Nat} {A A' F : Nat → Prop} {v : Value} {P : Pgs} (h : KeptRow w base A v P) (hf : Fr F w w') (hF : ∀ b, F b → A b) (hA : ∀ b, A' b → A b ∨ w.heap.size ≤ b) : KeptRow w' base A' v P := by
  refine ⟨own_fr h.1 hf (fun b hb e => h.2 b hb (hF b e)), fun b hb e => ?_⟩
  rcases hA b e with e | e
  · exact h.2 b hb e
  · have := own_lt h.1 hb; omega
set_option maxHeartbeats 12800000 in
set_option maxRecDepth 100000 in
theorem TxnOver_row (A : Option Addr) (ca : Nat) (xs : List Int) (back : Bool) (w : World) (hx : IntsIn w A xs) :
    Calls Tryz.prog 7 #[.slice A xs.length ca, .bool back] w fun e w' => e = .returned (.bool true) ∧ Fr Nob w w' := by
  obtain ⟨i0, hi0, iz0, iz1, iz2⟩ := info_parts' info_str6
  have qL : ∀ (w : World) (A : Option Addr) (n c : Nat), (Builtin.len_ #[50] 3 #[Value.slice A n c]).run Tryz.prog w = .ok (.int .i64 n) w := fun w A n c => by go_simp
  have HX := Lib.hid hx
  have HMd : Hid (Calls Tryz.prog 14 #[.int .i64 4096, .int .i64 1] w fun e w' => ∃ g s d p l f RS U nv lv, e = .returned (.pointer (some ⟨g, 0, none⟩)) ∧ TW w w' RS (fun _ => False) U g s 0 0 (TS.fresh d p l f 6 4096 1) (4096 : Nat) 1 nv lv CZ) := Made6_any 4096 1 w (by omega) (by omega) (by omega) (by omega)
  have HAw : Hid (∀ W, Calls Tryz.prog 13 #[] W fun e w' => e = .returned (.bool true) ∧ Fr Nob W w') := Awake6_any
  have HBy9 : Hid (∀ W, Calls Tryz.prog 16 #[.int .i64 9, .int .i64 480] W fun e w' => e = .returned (.slice (some ⟨W.heap.size, 0, none⟩) 480 480) ∧ Blk w' W.heap.size 5 (bts (byB 9 480)).toArray ∧ Fr Nob W w') := fun W => Bytes6_any 9 480 W (by omega) (by omega)
  have HBy : Hid (∀ k n W, k ≤ 100 → n ≤ 64 → Calls Tryz.prog 16 #[.int .i64 ((k : Nat) : Int), .int .i64 ((n : Nat) : Int)] W fun e w' => e = .returned (.slice (some ⟨W.heap.size, 0, none⟩) n n) ∧ Blk w' W.heap.size 5 (bts (byB k n)).toArray ∧ Fr Nob W w') := fun k n W hk hn => Bytes6_any k n W (by omega) (by omega)
  clear hx
  go_enter Tryz.func7, Tryz.ntmps7
  go_wp2_with fail
  refine HMd.out.mono ?_
  rintro e w1 ⟨g, s, d, p, l, f, RS1, U1, nv, lv, rfl, hw1⟩
  have hti := TI.fresh d p l f 4096 1
  have a1 := hw1.cs
  have z1 := hw1.lt
  obtain ⟨gn, cn, rfl, hcn, hgn⟩ := hw1.form
  have HW1 := Lib.hid hw1
  have HTi := Lib.hid hti
  clear hti hw1 HMd
  go_wp2_with fail
  have hS : Fr (All3 RS1 (fun _ => False) U1) w1 w1.drew := (Fr.refl _ w1).drew
  have hSn : Fr Nob w1 w1.drew := (Fr.refl _ w1).drew
  have hng := HW1.out.ng
  refine Rg.begin (Fr (All3 RS1 (fun _ => False) U1) w1) [] (by kernel_rfl) ?_
  refine Rg.op 0 (some 17) hS (v := ?v0a) (a' := ?a0a) (hy := fun wz hwz => ?h0a) (ha := ?b0a) (h := ?_)
  case h0a => (go_simp; try with_reducible rfl)
  case b0a => (simp only [Act.put, List.setIfInBounds_toArray, List.set_cons_zero, List.set_cons_succ]; rfl)
  refine Rg.op 1 (some 18) hS (v := ?v1a) (a' := ?a1a) (hy := fun wz hwz => ?h1a) (ha := ?b1a) (h := ?_)
  case h1a => (go_simp; try with_reducible rfl)
  case b1a => (simp only [Act.put, List.setIfInBounds_toArray, List.set_cons_zero, List.set_cons_succ]; rfl)
  refine Rg.op 2 (some 19) hS (v := ?v2a) (a' := ?a2a) (hy := fun wz hwz => ?h2a) (ha := ?b2a) (h := ?_)
  case h2a => (go_simp; try with_reducible rfl)
  case b2a => (simp only [Act.put, List.setIfInBounds_toArray, List.set_cons_zero, List.set_cons_succ]; rfl)
  refine Rg.op 3 (some 20) hS (v := ?v3a) (a' := ?a3a) (hy := fun wz hwz => ?h3a) (ha := ?b3a) (h := ?_)
  case h3a => (go_simp; try with_reducible rfl)
  case b3a => (simp only [Act.put, List.setIfInBounds_toArray, List.set_cons_zero, List.set_cons_succ]; rfl)
  refine Rg.op 4 (some 21) hS (v := ?v4a) (a' := ?a4a) (hy := fun wz hwz => ?h4a) (ha := ?b4a) (h := ?_)
  case h4a => (have hpp := Nat.lt_of_lt_of_le z1 hwz.size; go_simp; try with_reducible rfl)
  case b4a => (simp only [Act.put, List.setIfInBounds_toArray, List.set_cons_zero, List.set_cons_succ]; rfl)
  refine Rg.op 5 (some 22) hS (v := ?v5a) (a' := ?a5a) (hy := fun wz hwz => ?h5a) (ha := ?b5a) (h := ?_)
  case h5a => (have hpp := Nat.lt_of_lt_of_le z1 hwz.size; go_simp; try with_reducible rfl)
  case b5a => (simp only [Act.put, List.setIfInBounds_toArray, List.set_cons_zero, List.set_cons_succ]; rfl)
  refine Rg.op 6 (some 23) hS (v := (.pointer (some ⟨s, 0, none⟩))) (a' := ?a6a) (hy := fun wz hwz => ?h6a) (ha := ?b6a) (h := ?_)
  case h6a => (have cx := (hwz.cell (p := ⟨g, 1, none⟩) z1 hng).trans a1; have hpp := Nat.lt_of_lt_of_le z1 hwz.size; go_simp; try with_reducible rfl)
  case b6a => (simp only [Act.put, List.setIfInBounds_toArray, List.set_cons_zero, List.set_cons_succ]; rfl)
  have hbg := Begin_tb (HW1.out.tx.new hSn) HTi.out (by omega) (by omega)
  have HBg := Lib.hid hbg
  clear hbg
  refine Rg.call 7 (some 24) (hrun := ?h7a) (hcall := HBg.out) (h := ?_)
  case h7a => (go_simp)
  rintro e w2 ⟨rfl, RS2, T2, h2, hb2, hs2⟩
  have hS2 : Fr (All3 RS1 (fun _ => False) U1) w1 w2 := hS.trans hs2.fr3
  have hw2 := (HW1.out.new hSn).step h2 hs2 hb2.d
  have HW2 := Lib.hid hw2
  have HB2 := Lib.hid hb2
  have HSu2 := Lib.hid ((Subs.of hSn).trans hs2)
  clear h2 hb2 hs2 hw2 HBg
  refine ⟨_, ?a7a, rfl, ?b7a, (fun _ => hS2), ?_⟩
  case b7a => (simp only [Act.put, List.setIfInBounds_toArray, List.set_cons_zero, List.set_cons_succ]; rfl)
  refine Rg.op 8 (some 25) hS2 (v := ?v8a) (a' := ?a8a) (hy := fun wz hwz => ?h8a) (ha := ?b8a) (h := ?_)
  case h8a => (go_simp; try with_reducible rfl)
  case b8a => (simp only [Act.put, List.setIfInBounds_toArray, List.set_cons_zero, List.set_cons_succ]; rfl)
  refine Rg.op 9 (some 26) hS2 (v := ?v9a) (a' := ?a9a) (hy := fun wz hwz => ?h9a) (ha := ?b9a) (h := ?_)
  case h9a => (go_simp; try with_reducible rfl)
  case b9a => (simp only [Act.put, List.setIfInBounds_toArray, List.set_cons_zero, List.set_cons_succ]; rfl)
  refine Rg.op 10 (some 27) hS2 (v := ?v10a) (a' := ?a10a) (hy := fun wz hwz => ?h10a) (ha := ?b10a) (h := ?_)
  case h10a => (go_simp; try with_reducible rfl)
  case b10a => (simp only [Act.put, List.setIfInBounds_toArray, List.set_cons_zero, List.set_cons_succ]; rfl)
  refine Rg.op 11 (some 28) hS2 (v := ?v11a) (a' := ?a11a) (hy := fun wz hwz => ?h11a) (ha := ?b11a) (h := ?_)
  case h11a => (go_simp; try with_reducible rfl)
  case b11a => (simp only [Act.put, List.setIfInBounds_toArray, List.set_cons_zero, List.set_cons_succ]; rfl)
  refine Rg.op 12 (some 29) hS2 (v := ?v12a) (a' := ?a12a) (hy := fun wz hwz => ?h12a) (ha := ?b12a) (h := ?_)
  case h12a => (have hpp := Nat.lt_of_lt_of_le z1 hwz.size; go_simp; try with_reducible rfl)
  case b12a => (simp only [Act.put, List.setIfInBounds_toArray, List.set_cons_zero, List.set_cons_succ]; rfl)
  refine Rg.op 13 (some 30) hS2 (v := ?v13a) (a' := ?a13a) (hy := fun wz hwz => ?h13a) (ha := ?b13a) (h := ?_)
  case h13a => (have hpp := Nat.lt_of_lt_of_le z1 hwz.size; go_simp; try with_reducible rfl)
  case b13a => (simp only [Act.put, List.setIfInBounds_toArray, List.set_cons_zero, List.set_cons_succ]; rfl)
  refine Rg.op 14 (some 31) hS2 (v := (.pointer (some ⟨s, 0, none⟩))) (a' := ?a14a) (hy := fun wz hwz => ?h14a) (ha := ?b14a) (h := ?_)
  case h14a => (have cx := (hwz.cell (p := ⟨g, 1, none⟩) z1 hng).trans a1; have hpp := Nat.lt_of_lt_of_le z1 hwz.size; go_simp; try with_reducible rfl)
  case b14a => (simp only [Act.put, List.setIfInBounds_toArray, List.set_cons_zero, List.set_cons_succ]; rfl)
  refine Rg.call 15 (some 32) (hrun := ?h15a) (hcall := HBy9.out _) (h := ?_)
  case h15a => (go_simp)
  rintro e w3 ⟨rfl, hbk, hf3⟩
  have hS3 : Fr (All3 RS1 (fun _ => False) U1) w1 w3 := hS2.trans (hf3.mono (fun _ _ h => h.elim))
  have HSu3 := Lib.hid (HSu2.out.trans (Subs.of hf3))
  have hw3 := HW2.out.new hf3
  have hbl : (byB 9 480).length = 480 := byB_length 9 480
  have hnot : ¬ RS2 w2.heap.size ∧ ¬ (fun _ : Nat => False) w2.heap.size ∧ ¬ U1 w2.heap.size := ⟨fun e => by have := HW2.out.tx.lts _ e; omega, fun h => h, fun e => by have := HW2.out.tx.ltu _ e; omega⟩
  have hwr := Write_tb hw3.tx HB2.out 3 0 w2.heap.size 0 480 (byB 9 480) (bytesIn_of hbk) hbk.lt hnot (by omega) (by rw [hbl]; omega) (by omega) (by rw [hbl]; exact Nat.le_refl _) (by omega) (by rw [hbl]; omega) (by omega) (by omega)
  rw [hbl] at hwr
  have HWr := Lib.hid hwr
  have HW3 := Lib.hid hw3
  have HBl := Lib.hid hbl
  clear hwr hw3 hbk hf3 hnot hbl
  refine ⟨_, ?a15a, rfl, ?b15a, (fun _ => hS3), ?_⟩
  case b15a => (simp only [Act.put, List.setIfInBounds_toArray, List.set_cons_zero, List.set_cons_succ]; rfl)
  refine Rg.call 16 (some 33) (hrun := ?h16a) (hcall := HWr.out) (h := ?_)
  case h16a => (go_simp)
  rintro e w4 ⟨rfl, RS4, RO4, U4, T4, h4, hb4, hs4⟩
  have hSu4 := HSu3.out.trans hs4
  have hS4 : Fr (All3 RS1 (fun _ => False) U1) w1 w4 := hSu4.fr3
  have hw4 := HW3.out.step h4 hs4 (hb4.d.trans HB2.out.d.symm)
  have HCm := Lib.hid (Commit_tb hw4.tx hb4 (by omega) (by omega))
  have HW4 := Lib.hid hw4
  have HB4 := Lib.hid hb4
  have HSu4 := Lib.hid hSu4
  clear h4 hb4 hs4 hw4 hSu4 HWr
  refine ⟨_, ?a16a, rfl, ?b16a, (fun _ => hS4), ?_⟩
  case b16a => (simp only [Act.put, List.setIfInBounds_toArray, List.set_cons_zero, List.set_cons_succ]; rfl)
  refine Rg.op 17 (some 34) hS4 (v := ?v17a) (a' := ?a17a) (hy := fun wz hwz => ?h17a) (ha := ?b17a) (h := ?_)
  case h17a => (go_simp; try with_reducible rfl)
  case b17a => (simp only [Act.put, List.setIfInBounds_toArray, List.set_cons_zero, List.set_cons_succ]; rfl)
  refine Rg.op 18 (some 35) hS4 (v := ?v18a) (a' := ?a18a) (hy := fun wz hwz => ?h18a) (ha := ?b18a) (h := ?_)
  case h18a => (go_simp; try with_reducible rfl)
  case b18a => (simp only [Act.put, List.setIfInBounds_toArray, List.set_cons_zero, List.set_cons_succ]; rfl)
  refine Rg.op 19 (some 36) hS4 (v := ?v19a) (a' := ?a19a) (hy := fun wz hwz => ?h19a) (ha := ?b19a) (h := ?_)
  case h19a => (go_simp; try with_reducible rfl)
  case b19a => (simp only [Act.put, List.setIfInBounds_toArray, List.set_cons_zero, List.set_cons_succ]; rfl)
  refine Rg.op 20 (some 37) hS4 (v := ?v20a) (a' := ?a20a) (hy := fun wz hwz => ?h20a) (ha := ?b20a) (h := ?_)
  case h20a => (go_simp; try with_reducible rfl)
  case b20a => (simp only [Act.put, List.setIfInBounds_toArray, List.set_cons_zero, List.set_cons_succ]; rfl)
  refine Rg.op 21 (some 38) hS4 (v := ?v21a) (a' := ?a21a) (hy := fun wz hwz => ?h21a) (ha := ?b21a) (h := ?_)
  case h21a => (have hpp := Nat.lt_of_lt_of_le z1 hwz.size; go_simp; try with_reducible rfl)
  case b21a => (simp only [Act.put, List.setIfInBounds_toArray, List.set_cons_zero, List.set_cons_succ]; rfl)
  refine Rg.op 22 (some 39) hS4 (v := ?v22a) (a' := ?a22a) (hy := fun wz hwz => ?h22a) (ha := ?b22a) (h := ?_)
  case h22a => (have hpp := Nat.lt_of_lt_of_le z1 hwz.size; go_simp; try with_reducible rfl)
  case b22a => (simp only [Act.put, List.setIfInBounds_toArray, List.set_cons_zero, List.set_cons_succ]; rfl)
  refine Rg.op 23 (some 40) hS4 (v := (.pointer (some ⟨s, 0, none⟩))) (a' := ?a23a) (hy := fun wz hwz => ?h23a) (ha := ?b23a) (h := ?_)
  case h23a => (have cx := (hwz.cell (p := ⟨g, 1, none⟩) z1 hng).trans a1; have hpp := Nat.lt_of_lt_of_le z1 hwz.size; go_simp; try with_reducible rfl)
  case b23a => (simp only [Act.put, List.setIfInBounds_toArray, List.set_cons_zero, List.set_cons_succ]; rfl)
  refine Rg.call 24 (some 41) (hrun := ?h24a) (hcall := HCm.out) (h := ?_)
  case h24a => (go_simp)
  rintro e w5 ⟨rfl, RS5, U5, T5, h5, hb5, hs5⟩
  have hSu5 := HSu4.out.trans hs5
  have hS5 : Fr (All3 RS1 (fun _ => False) U1) w1 w5 := hSu5.fr3
  have hw5 := HW4.out.step h5 hs5 (hb5.d.trans HB4.out.d.symm)
  have HBg2 := Lib.hid (Begin_tb hw5.tx hb5 (by omega) (by omega))
  have HW5 := Lib.hid hw5
  have HB5 := Lib.hid hb5
  have HSu5 := Lib.hid hSu5
  clear h5 hb5 hs5 hw5 hSu5 HCm
  refine ⟨_, ?a24a, rfl, ?b24a, (fun _ => hS5), ?_⟩
  case b24a => (simp only [Act.put, List.setIfInBounds_toArray, List.set_cons_zero, List.set_cons_succ]; rfl)
  refine Rg.op 25 (some 42) hS5 (v := ?v25a) (a' := ?a25a) (hy := fun wz hwz => ?h25a) (ha := ?b25a) (h := ?_)
  case h25a => (go_simp; try with_reducible rfl)
  case b25a => (simp only [Act.put, List.setIfInBounds_toArray, List.set_cons_zero, List.set_cons_succ]; rfl)
  refine Rg.op 26 (some 43) hS5 (v := ?v26a) (a' := ?a26a) (hy := fun wz hwz => ?h26a) (ha := ?b26a) (h := ?_)
  case h26a => (go_simp; try with_reducible rfl)
  case b26a => (simp only [Act.put, List.setIfInBounds_toArray, List.set_cons_zero, List.set_cons_succ]; rfl)
  refine Rg.op 27 (some 44) hS5 (v := ?v27a) (a' := ?a27a) (hy := fun wz hwz => ?h27a) (ha := ?b27a) (h := ?_)
  case h27a => (go_simp; try with_reducible rfl)
  case b27a => (simp only [Act.put, List.setIfInBounds_toArray, List.set_cons_zero, List.set_cons_succ]; rfl)
  refine Rg.op 28 (some 45) hS5 (v := ?v28a) (a' := ?a28a) (hy := fun wz hwz => ?h28a) (ha := ?b28a) (h := ?_)
  case h28a => (go_simp; try with_reducible rfl)
  case b28a => (simp only [Act.put, List.setIfInBounds_toArray, List.set_cons_zero, List.set_cons_succ]; rfl)
  refine Rg.op 29 (some 46) hS5 (v := ?v29a) (a' := ?a29a) (hy := fun wz hwz => ?h29a) (ha := ?b29a) (h := ?_)
  case h29a => (have hpp := Nat.lt_of_lt_of_le z1 hwz.size; go_simp; try with_reducible rfl)
  case b29a => (simp only [Act.put, List.setIfInBounds_toArray, List.set_cons_zero, List.set_cons_succ]; rfl)
  refine Rg.op 30 (some 47) hS5 (v := ?v30a) (a' := ?a30a) (hy := fun wz hwz => ?h30a) (ha := ?b30a) (h := ?_)
  case h30a => (have hpp := Nat.lt_of_lt_of_le z1 hwz.size; go_simp; try with_reducible rfl)
  case b30a => (simp only [Act.put, List.setIfInBounds_toArray, List.set_cons_zero, List.set_cons_succ]; rfl)
  refine Rg.op 31 (some 48) hS5 (v := (.pointer (some ⟨s, 0, none⟩))) (a' := ?a31a) (hy := fun wz hwz => ?h31a) (ha := ?b31a) (h := ?_)
  case h31a => (have cx := (hwz.cell (p := ⟨g, 1, none⟩) z1 hng).trans a1; have hpp := Nat.lt_of_lt_of_le z1 hwz.size; go_simp; try with_reducible rfl)
  case b31a => (simp only [Act.put, List.setIfInBounds_toArray, List.set_cons_zero, List.set_cons_succ]; rfl)
  refine Rg.call 32 (some 49) (hrun := ?h32a) (hcall := HBg2.out) (h := ?_)
  case h32a => (go_simp)
  rintro e w6 ⟨rfl, RS6, T6, h6, hb6, hs6⟩
  have hSu6 := HSu5.out.trans hs6
  have hS6 : Fr (All3 RS1 (fun _ => False) U1) w1 w6 := hSu6.fr3
  have hw6 := HW5.out.step h6 hs6 (hb6.d.trans HB5.out.d.symm)
  have HW6 := Lib.hid hw6
  have HB6 := Lib.hid hb6
  clear h6 hb6 hs6 hw6 hSu6 HBg2
  refine ⟨_, ?a32a, rfl, ?b32a, (fun _ => hS6), ?_⟩
  case b32a => (simp only [Act.put, List.setIfInBounds_toArray, List.set_cons_zero, List.set_cons_succ]; rfl)
  refine Rg.op 33 (some 50) hS6 (v := ?v33a) (a' := ?a33a) (hy := fun wz hwz => ?h33a) (ha := ?b33a) (h := ?_)
  case h33a => (go_simp; try with_reducible rfl)
  case b33a => (simp only [Act.put, List.setIfInBounds_toArray, List.set_cons_zero, List.set_cons_succ]; rfl)
  refine Rg.op 34 (some 51) hS6 (v := ?v34a) (a' := ?a34a) (hy := fun wz hwz => ?h34a) (ha := ?b34a) (h := ?_)
  case h34a => (go_simp; try with_reducible rfl)
  case b34a => (simp only [Act.put, List.setIfInBounds_toArray, List.set_cons_zero, List.set_cons_succ]; rfl)
  refine Rg.done _ (h := ?_)
  clear hS hSn hS2 hS3 hS4 hS5 hS6 HSu2 HSu3 HSu4 HSu5 HW1 HW2 HW3 HW4 HW5 HB2 HB4 HB5 HTi hng a1 z1 hgn
  have a6 := HW6.out.cs
  have z6 := HW6.out.lt
  have n6 := HW6.out.cn
  have hgn6 : gn < w6.heap.size := own_lt (show w6.ownsRow _ 9 1 (.slice (some ⟨gn, 0, none⟩) 6 cn) 6 _ from HW6.out.now) (g := gn) rfl
  obtain ⟨v3, cc3⟩ : ∃ v, w6.cell? ⟨gn, 3, none⟩ = some v := ⟨_, Row6.at_ HW6.out.now 3 (by omega)⟩
  have hgr6 : w6.frozen? ⟨gn, 3, none⟩ = false := by
    obtain ⟨cur, hcur⟩ := own_blk (show w6.ownsRow _ 9 1 (.slice (some ⟨gn, 0, none⟩) 6 cn) 6 _ from HW6.out.now) (g := gn) rfl
    exact hcur.frozen 3
  obtain ⟨B9, hB9⟩ : ∃ x, tB (byB 9 480) = x := ⟨_, rfl⟩
  have HB9 := Lib.hid hB9
  clear hB9
  go_wp2_with fail
  have hS : Fr Nob w6 w6.drew := (Fr.refl _ w6).drew
  refine Rg.begin (Fr Nob w6) [7] (by kernel_rfl) ?_
  refine Rg.op 0 (some 52) hS (v := ?v0b) (a' := ?a0b) (hy := fun wz hwz => ?h0b) (ha := ?b0b) (h := ?_)
  case h0b => (go_simp; try with_reducible rfl)
  case b0b => (simp only [Act.put, List.setIfInBounds_toArray, List.set_cons_zero, List.set_cons_succ]; rfl)
  refine Rg.op 1 (some 53) hS (v := ?v1b) (a' := ?a1b) (hy := fun wz hwz => ?h1b) (ha := ?b1b) (h := ?_)
  case h1b => (have hpp := Nat.lt_of_lt_of_le z6 hwz.size; go_simp; try with_reducible rfl)
  case b1b => (simp only [Act.put, List.setIfInBounds_toArray, List.set_cons_zero, List.set_cons_succ]; rfl)
  refine Rg.op 2 (some 54) hS (v := ?v2b) (a' := ?a2b) (hy := fun wz hwz => ?h2b) (ha := ?b2b) (h := ?_)
  case h2b => (have hpp := Nat.lt_of_lt_of_le z6 hwz.size; go_simp; try with_reducible rfl)
  case b2b => (simp only [Act.put, List.setIfInBounds_toArray, List.set_cons_zero, List.set_cons_succ]; rfl)
  refine Rg.op 3 (some 55) hS (v := (.slice (some ⟨gn, 0, none⟩) 6 cn)) (a' := ?a3b) (hy := fun wz hwz => ?h3b) (ha := ?b3b) (h := ?_)
  case h3b => (have cx := (hwz.cell (p := ⟨g, 4, none⟩) z6 (fun h => h)).trans n6; have hpp := Nat.lt_of_lt_of_le z6 hwz.size; go_simp; try with_reducible rfl)
  case b3b => (simp only [Act.put, List.setIfInBounds_toArray, List.set_cons_zero, List.set_cons_succ]; rfl)
  refine Rg.call 4 (some 56) (hrun := ?h4b) (hcall := HBy9.out _) (h := ?_)
  case h4b => (go_simp)
  rintro e w7 ⟨rfl, hbk, hf7⟩
  have hS7 : Fr Nob w6 w7 := hS.trans hf7
  have hcv7 := conv_in (bytesIn_of hbk) 480
  rw [byB_length] at hcv7
  have HCv7 : Hid ((convert 40 9 (.slice (some ⟨w6.heap.size, 0, none⟩) 480 480)).run Tryz.prog w7 = .ok (.string B9) w7) := by rw [Hid, ← HB9.out]; exact hcv7
  clear hbk hf7 hcv7
  refine ⟨_, ?a4b, rfl, ?b4b, (fun _ => hS7), ?_⟩
  case b4b => (simp only [Act.put, List.setIfInBounds_toArray, List.set_cons_zero, List.set_cons_succ]; rfl)
  refine Rg.seq 5 (some 57) hS7 (v := (.string B9)) (a' := ?a5b) (hrun := ?h5b) (ha := ?b5b) (h := ?_)
  case h5b => (have hcv := HCv7.out; go_simp; try with_reducible rfl)
  case b5b => (simp only [Act.put, List.setIfInBounds_toArray, List.set_cons_zero, List.set_cons_succ]; rfl)
  refine Rg.op 6 (some 58) hS7 (v := (.pointer (some ⟨gn, 3, none⟩))) (a' := ?a6b) (hy := fun wz hwz => ?h6b) (ha := ?b6b) (h := ?_)
  case h6b => (have hp2 := Nat.lt_of_lt_of_le hgn6 hwz.size; go_simp; try with_reducible rfl)
  case b6b => (simp only [Act.put, List.setIfInBounds_toArray, List.set_cons_zero, List.set_cons_succ]; rfl)
  have cc := (hS7.cell (p := ⟨gn, 3, none⟩) hgn6 (fun h => h)).trans cc3
  have ff := (hS7.frozen (p := ⟨gn, 3, none⟩) hgn6 (fun h => h)).trans hgr6
  have hh := Nat.lt_of_lt_of_le hgn6 hS7.size
  refine Rg.store 7 (w' := ?w7b) (hrun := ?h7b) (hS := (fun h => absurd (by decide) h)) (h := ?_)
  case h7b => (go_simp; try with_reducible rfl)
  refine Rg.done _ (h := ?_)
  have hw8 := (HW6.out.new hS7).setNow 3 (byB 9 480) (by omega)
  have hov0 : setP CZ 3 (byB 9 480) = ovPg xs 0 := by
    show _ = layP CZ 3 0 (byB 9 480)
    unfold layP setP layB
    funext k
    have hz : (CZ 3).length = 480 := zeros_length 480
    rw [byB_length, List.take_zero, List.nil_append, Nat.zero_add, List.drop_of_length_le (by omega), List.append_nil]
  have hs8 : tS (byB 9 480) = .string B9 := by rw [tS_eq, HB9.out]
  rw [hov0, hs8] at hw8
  have hb8 : TB T6 d 4096 (ovPg xs 0) (ovPg xs 0) [] 0 0 0 (194711 - 17 + 0) := by
    have h9 := HB6.out
    rw [show (194711 : Int) - 17 + 0 = 48 * ((4096 : Nat) - 8 : Int) - 17 - (56 + 3 * ((480 : Nat) : Int)) - 17 from by omega]
    exact h9
  obtain ⟨w8, hw8e⟩ : ∃ W, w7.setCell ⟨gn, 3, none⟩ (.string B9) = W := ⟨_, rfl⟩
  rw [hw8e] at hw8 ⊢
  have HW8 := Lib.hid hw8
  have HB8 := Lib.hid hb8
  clear hw8 hb8 hov0 hs8 hw8e hS hS7 HCv7 HW6 HB6 n6 hgn6 cc3 hgr6 a6 z6
  have hgnp : gn < w8.heap.size := own_lt (show w8.ownsRow _ 9 1 (.slice (some ⟨gn, 0, none⟩) 6 cn) 6 _ from HW8.out.now) (g := gn) rfl
  have hfep : Fr Nob w8 (w8.alloc (.cells #[] 9)) := (Fr.refl _ w8).alloc _
  have hoep : (w8.alloc (.cells #[] 9)).ownsRow w.heap.size 9 1 (.slice (some ⟨w8.heap.size, 0, none⟩) 0 0) 0 [] := own_base (World.ownsRow_made w8 #[] 0 (Nat.le_refl _) (by decide) rfl) (fun b hb => by
    have e : w8.heap.size = b := by simpa [Value.ownBlock] using hb
    have := HW8.out.fr.size
    omega)
  have HEp := Lib.hid hoep
  have hnrp := HW8.out.now
  have HNcp : Hid (∀ j u, ((List.range 6).map fun i => tS (ovPg xs 0 i))[j]? = some u → (w8.alloc (.cells #[] 9)).cell? ((⟨gn, 0, none⟩ : Addr).add j) = some u) := fun j u hu => by
    have hj : j < 6 := by have := (List.getElem?_eq_some_iff.1 hu).1; simpa using this
    rw [Addr.add_mid, Nat.zero_add, hfep.cell (p := ⟨gn, j, none⟩) hgnp (fun h => h), Row6.at_ hnrp j hj]
    rw [List.getElem?_map, List.getElem?_range hj] at hu
    exact hu
  obtain ⟨slp, hslp⟩ : ∃ l, ((List.range 6).map fun i => tS (ovPg xs 0 i)) = l := ⟨_, rfl⟩
  have hsllp := row6_list_len (ovPg xs 0)
  have hsl1p := row6_one (ovPg xs 0)
  rw [hslp] at HNcp hsllp hsl1p
  have HSlp := Lib.hid hslp
  have HSllp := Lib.hid hsllp
  have HSl1p := Lib.hid hsl1p
  have HFep := Lib.hid hfep
  have hzcp := HW8.out.fr.size
  have np := HW8.out.cn
  have zcp := HW8.out.lt
  clear hfep hoep hnrp hslp hsllp hsl1p
  go_wp2_with (at_builtin; go_must (refine wpList_append_own_at _ rfl (.tmp 59) (.tmp 63) 34 rfl w.heap.size 9 i0 (.string ⟨#[]⟩) 1 16 Tryz.underlying34 hi0 iz0 iz1 iz2 rfl (by decide) (.slice (some ⟨w8.heap.size, 0, none⟩) 0 0) 0 [] rfl HEp.out ⟨gn, 0, none⟩ 6 cn slp rfl HSllp.out HNcp.out HSl1p.out (by unfold maxLen; omega) (by omega) (by have := HFep.out.size; omega) ?_); intro vc wpa hown hgr hnil hat; obtain ⟨gap, cap, hvc, _, hgz⟩ := hown.form (by omega); subst hvc; have hgap : w8.heap.size ≤ gap := (by rcases hat with e | e; (have e2 : gap = w8.heap.size := (by simpa [Value.ownBlock] using e); omega); (have e2 : gap = (w8.alloc (.cells #[] 9)).heap.size := (by simpa [Value.ownBlock] using e); have := HFep.out.size; omega)); have HFcp : Hid (Fr Nob w8 wpa) := HFep.out.grown hgr (fun r hr => .inl (by have e2 : w8.heap.size = r := (by simpa [Value.ownBlock] using hr); omega)); have HRowp : Hid (Row6 wpa w.heap.size (.slice (some ⟨gap, 0, none⟩) 6 cap) (ovPg xs 0)) := (by unfold Row6; rw [Hid, HSlp.out]; exact hown); clear hown hgr hnil hat hgz)
  have hkr : KeptRow wpa w.heap.size (AllN RS6 RO4 U5 (.slice (some ⟨gn, 0, none⟩) 6 cn)) (.slice (some ⟨gap, 0, none⟩) 6 cap) (ovPg xs (ovL 0)) := ⟨HRowp.out, fun b hb e => by
    have e2 : gap = b := by simpa [Value.ownBlock] using hb
    rcases e with e | e
    · have := HW8.out.tx.all3lt e; omega
    · have e3 : gn = b := by simpa [Value.ownBlock] using e
      omega⟩
  have HKr := Lib.hid hkr
  have hw9 := HW8.out.new HFcp.out
  have HW9 := Lib.hid hw9
  clear hkr hw9
  go_wp2_with fail
  go_loopw [6, 7, 8] (fun fv idv iv wr => ∃ k M K : Nat, iv = .int .i64 k ∧ idv = .int .i64 (ovL k) ∧ k ≤ 20 ∧ k ≤ xs.length ∧ M ≤ 10 + 3 * k ∧ K ≤ 10 + 2 * k ∧ Hid (∃ RS RO U T, TW w wr RS RO U g s M K T (4096 : Nat) 1 (.slice (some ⟨gn, 0, none⟩) 6 cn) lv (ovPg xs k) ∧ TB T d 4096 (ovPg xs k) (ovPg xs 0) (ovSv xs k) k (ovL k) 0 (194694 - 248 * (k : Int)) ∧ KeptRow wr w.heap.size (AllN RS RO U (.slice (some ⟨gn, 0, none⟩) 6 cn)) fv (ovPg xs (ovL k)))) (fun _ _ iv _ => 20 - (intOf iv).toNat)
  case atStart => exact ⟨0, _, _, rfl, rfl, by omega, Nat.zero_le _, by omega, by omega, _, _, _, _, HW9.out, HB8.out.le (by omega), HKr.out⟩
  case round =>
    clear HW8 HB8 HKr HW9
    obtain ⟨k, M, K, rfl, rfl, hk20, hkl, hM, hK, hX⟩ := hrel
    obtain ⟨RS1', RO1', U1', T1, hw1, hb1, hkr1⟩ := hX.out
    have HW1 := Lib.hid hw1
    have HB1 := Lib.hid hb1
    have HKr1 := Lib.hid hkr1
    clear hX hw1 hb1 hkr1
    by_cases hgo : k < xs.length ∧ k < 20
    · obtain ⟨hg1, hg2⟩ := hgo
      obtain ⟨x, hxi⟩ : ∃ x, xs[k]? = some x := ⟨_, List.getElem?_eq_getElem hg1⟩
      have hxd : xs.getD k 0 = x := by rw [List.getD_eq_getElem?_getD, hxi]; rfl
      obtain ⟨kb, ko, rfl, hcx⟩ := HX.out.2 (by omega)
      have hxw := (HW1.out.fr.cell (p := ⟨kb, ko + k, none⟩) (cell_lt (hcx k x hxi)) (fun h => h)).trans (hcx k x hxi)
      have zkb : kb < wr.heap.size := Nat.lt_of_lt_of_le (cell_lt (hcx k x hxi)) HW1.out.fr.size
      obtain ⟨y, hy, hyb⟩ := and_nat x 511 (by omega)
      obtain ⟨z, hz, hzb⟩ := and_nat (x / 512) 63 (by omega)
      have hy : bits .and .i64 x 511 = (y : Int) := hy
      have hz : bits .and .i64 (x / 512) 63 = (z : Int) := hz
      obtain ⟨at_, hat⟩ : ∃ a, y % 400 = a := ⟨_, rfl⟩
      have hat4 : at_ < 400 := by omega
      obtain ⟨lo, hlo⟩ : ∃ a, z + 1 = a := ⟨_, rfl⟩
      have hpo : layP (ovPg xs k) 3 at_ (byB (k + 50) lo) = ovPg xs (k + 1) := by
        show _ = layP (ovPg xs k) 3 (ovAt (xs.getD k 0)) (byB (k + 50) (ovLong (xs.getD k 0)))
        rw [hxd]
        unfold ovAt ovLong
        rw [hy, hz]
        show _ = layP (ovPg xs k) 3 (y % 400) (byB (k + 50) (z + 1))
        rw [hat, hlo]
      have hgI : (k : Int) < (xs.length : Int) := by omega
      have hgI2 : (k : Int) < 20 := by omega
      have r1 : (y : Int).tmod 400 = (at_ : Int) := by rw [Int.tmod_eq_emod_of_nonneg (by omega)]; omega
      have r0 : IntKind.i64.wrap ((y : Int).tmod 400) = (at_ : Int) := by rw [r1, IntKind.wrap_i64]; omega
      have l0 : IntKind.i64.wrap ((z : Int) + 1) = (lo : Int) := by rw [IntKind.wrap_i64]; omega
      have EY := Lib.hid hy
      have EZ := Lib.hid hz
      have ER0 := Lib.hid r0
      have ER1 := Lib.hid r1
      have EL0 := Lib.hid l0
      have HPo := Lib.hid hpo
      have HXw := Lib.hid hxw
      have HHy := Lib.hid hat
      have hlob : lo ≤ 64 := by omega
      have hlo1 : 1 ≤ lo := by omega
      clear hy hz hat hlo hpo r1 r0 l0 hxw hxi hxd hcx
      go_wp2_with fail
      have hS : Fr Nob wr wr.drew := (Fr.refl _ wr).drew
      refine Rg.begin (Fr Nob wr) [] (by kernel_rfl) ?_
      refine Rg.op 0 (some 75) hS (v := ?v0c) (a' := ?a0c) (hy := fun wz hwz => ?h0c) (ha := ?b0c) (h := ?_)
      case h0c => (go_simp; try with_reducible rfl)
      case b0c => (simp only [Act.put, List.setIfInBounds_toArray, List.set_cons_zero, List.set_cons_succ]; rfl)
      refine Rg.op 1 (some 76) hS (v := ?v1c) (a' := ?a1c) (hy := fun wz hwz => ?h1c) (ha := ?b1c) (h := ?_)
      case h1c => (go_simp; try with_reducible rfl)
      case b1c => (simp only [Act.put, List.setIfInBounds_toArray, List.set_cons_zero, List.set_cons_succ]; rfl)
      refine Rg.op 2 (some 77) hS (v := (.pointer (some ⟨kb, ko + k, none⟩))) (a' := ?a2c) (hy := fun wz hwz => ?h2c) (ha := ?b2c) (h := ?_)
      case h2c => (have h6 : (k : Int) < (xs.length : Int) := hgI; have hpp := Nat.lt_of_lt_of_le zkb hwz.size; go_simp; try with_reducible rfl)
      case b2c => (simp only [Act.put, List.setIfInBounds_toArray, List.set_cons_zero, List.set_cons_succ]; rfl)
      refine Rg.op 3 (some 78) hS (v := (.int .i64 x)) (a' := ?a3c) (hy := fun wz hwz => ?h3c) (ha := ?b3c) (h := ?_)
      case h3c => (have cx := (hwz.cell (p := ⟨kb, ko + k, none⟩) zkb (fun h => h)).trans HXw.out; have hpp := Nat.lt_of_lt_of_le zkb hwz.size; go_simp; try with_reducible rfl)
      case b3c => (simp only [Act.put, List.setIfInBounds_toArray, List.set_cons_zero, List.set_cons_succ]; rfl)
      refine Rg.op 4 (some 79) hS (v := (.int .i64 y)) (a' := ?a4c) (hy := fun wz hwz => ?h4c) (ha := ?b4c) (h := ?_)
      case h4c => (have e := EY.out; go_simp; try with_reducible rfl)
      case b4c => (simp only [Act.put, List.setIfInBounds_toArray, List.set_cons_zero, List.set_cons_succ]; rfl)
      refine Rg.op 5 (some 80) hS (v := (.int .i64 at_)) (a' := ?a5c) (hy := fun wz hwz => ?h5c) (ha := ?b5c) (h := ?_)
      case h5c => (have e := ER0.out; have e1 := ER1.out; go_simp; try with_reducible rfl)
      case b5c => (simp only [Act.put, List.setIfInBounds_toArray, List.set_cons_zero, List.set_cons_succ]; rfl)
      refine Rg.op 6 (some 81) hS (v := ?v6c) (a' := ?a6c) (hy := fun wz hwz => ?h6c) (ha := ?b6c) (h := ?_)
      case h6c => (go_simp; try with_reducible rfl)
      case b6c => (simp only [Act.put, List.setIfInBounds_toArray, List.set_cons_zero, List.set_cons_succ]; rfl)
      refine Rg.op 7 (some 82) hS (v := ?v7c) (a' := ?a7c) (hy := fun wz hwz => ?h7c) (ha := ?b7c) (h := ?_)
      case h7c => (go_simp; try with_reducible rfl)
      case b7c => (simp only [Act.put, List.setIfInBounds_toArray, List.set_cons_zero, List.set_cons_succ]; rfl)
      refine Rg.op 8 (some 83) hS (v := (.pointer (some ⟨kb, ko + k, none⟩))) (a' := ?a8c) (hy := fun wz hwz => ?h8c) (ha := ?b8c) (h := ?_)
      case h8c => (have h6 : (k : Int) < (xs.length : Int) := hgI; have hpp := Nat.lt_of_lt_of_le zkb hwz.size; go_simp; try with_reducible rfl)
      case b8c => (simp only [Act.put, List.setIfInBounds_toArray, List.set_cons_zero, List.set_cons_succ]; rfl)
      refine Rg.op 9 (some 84) hS (v := (.int .i64 x)) (a' := ?a9c) (hy := fun wz hwz => ?h9c) (ha := ?b9c) (h := ?_)
      case h9c => (have cx := (hwz.cell (p := ⟨kb, ko + k, none⟩) zkb (fun h => h)).trans HXw.out; have hpp := Nat.lt_of_lt_of_le zkb hwz.size; go_simp; try with_reducible rfl)
      case b9c => (simp only [Act.put, List.setIfInBounds_toArray, List.set_cons_zero, List.set_cons_succ]; rfl)
      refine Rg.op 10 (some 85) hS (v := (.int .i64 (x / 512))) (a' := ?a10c) (hy := fun wz hwz => ?h10c) (ha := ?b10c) (h := ?_)
      case h10c => (go_simp; try with_reducible rfl)
      case b10c => (simp only [Act.put, List.setIfInBounds_toArray, List.set_cons_zero, List.set_cons_succ]; rfl)
      refine Rg.op 11 (some 86) hS (v := (.int .i64 z)) (a' := ?a11c) (hy := fun wz hwz => ?h11c) (ha := ?b11c) (h := ?_)
      case h11c => (have e := EZ.out; go_simp; try with_reducible rfl)
      case b11c => (simp only [Act.put, List.setIfInBounds_toArray, List.set_cons_zero, List.set_cons_succ]; rfl)
      refine Rg.op 12 (some 87) hS (v := (.int .i64 lo)) (a' := ?a12c) (hy := fun wz hwz => ?h12c) (ha := ?b12c) (h := ?_)
      case h12c => (have e := EL0.out; go_simp; try with_reducible rfl)
      case b12c => (simp only [Act.put, List.setIfInBounds_toArray, List.set_cons_zero, List.set_cons_succ]; rfl)
      refine Rg.op 13 (some 9) hS (v := ?v13c) (a' := ?a13c) (hy := fun wz hwz => ?h13c) (ha := ?b13c) (h := ?_)
      case h13c => (go_simp; try with_reducible rfl)
      case b13c => (simp only [Act.put, List.setIfInBounds_toArray, List.set_cons_zero, List.set_cons_succ]; rfl)
      refine Rg.op 14 (some 10) hS (v := ?v14c) (a' := ?a14c) (hy := fun wz hwz => ?h14c) (ha := ?b14c) (h := ?_)
      case h14c => (go_simp; try with_reducible rfl)
      case b14c => (simp only [Act.put, List.setIfInBounds_toArray, List.set_cons_zero, List.set_cons_succ]; rfl)
      refine Rg.done _ (h := ?_)
      have hwd := HW1.out.new hS
      have hkd := HKr1.out.step hS (fun _ h => h.elim) (fun b hb => .inl hb)
      obtain ⟨wd, hwd0⟩ : ∃ W, wr.drew = W := ⟨_, rfl⟩
      rw [hwd0] at hwd hkd ⊢
      have HWd := Lib.hid hwd
      have HKd := Lib.hid hkd
      have e50 : IntKind.i64.wrap ((k : Int) + 50) = ((k + 50 : Nat) : Int) := by rw [IntKind.wrap_i64]; omega
      obtain ⟨k50, hk50⟩ : ∃ a, k + 50 = a := ⟨_, rfl⟩
      rw [hk50] at e50
      have e51 : (k : Int) + 50 = (k50 : Int) := by omega
      have hby := Lib.hid (HBy.out k50 lo wd (by omega) hlob)
      have HK50 := Lib.hid hk50
      clear hwd hkd hwd0 hS HW1 HKr1 hk50 zkb
      go_wp2_with fail
      refine hby.out.mono ?_
      rintro e w4 ⟨rfl, hbk, hf4⟩
      have hw4 := HWd.out.new hf4
      have hbi := bytesIn_of hbk
      have hbl : (byB k50 lo).length = lo := byB_length k50 lo
      have hnot : ¬ RS1' wd.heap.size ∧ ¬ RO1' wd.heap.size ∧ ¬ U1' wd.heap.size := ⟨fun e => by have := HWd.out.tx.lts _ e; omega, fun e => by have := HWd.out.tx.lto _ e; omega, fun e => by have := HWd.out.tx.ltu _ e; omega⟩
      have hzw : wd.heap.size < w4.heap.size := hbk.lt
      have hwr := Write_tb hw4.tx HB1.out 3 at_ wd.heap.size 0 lo (byB k50 lo) hbi hzw hnot (by omega) (by rw [hbl]; omega) (by omega) (by rw [hbl]; exact Nat.le_refl _) (by omega) (by rw [hbl]; omega) (by omega) (by omega)
      have hlen := HB1.out.len hw4.tx 3 (by omega)
      rw [hbl] at hwr
      have HWr := Lib.hid hwr
      have HW4 := Lib.hid hw4
      have HBi := Lib.hid hbi
      have HBl := Lib.hid hbl
      have HLen := Lib.hid hlen
      have HK4 := Lib.hid (HKd.out.step hf4 (fun _ h => h.elim) (fun b hb => .inl hb))
      have a4 := hw4.cs
      have z4 := hw4.lt
      have HD3 := Lib.hid HB1.out.d
      clear hbk hf4 hw4 hbi hbl hnot hwr hlen hby HKd
      go_wp2_with fail
      refine HWr.out.mono ?_
      rintro e w5 ⟨rfl, RS5, RO5, U5', T5, h5, hb5, hs5⟩
      have hw5 := HW4.out.step h5 hs5 (hb5.d.trans HD3.out.symm)
      have hk5 := HK4.out.step hs5.fr3 (fun b hb => .inl hb) (hs5.alln (nv := .slice (some ⟨gn, 0, none⟩) 6 cn))
      rw [← HK50.out, HPo.out] at hb5
      have HW5 := Lib.hid hw5
      have HB5 := Lib.hid hb5
      have HK5 := Lib.hid hk5
      have a5 := hw5.cs
      have z5 := hw5.lt
      have n5 := hw5.cn
      have r5 := Row6.at_ hw5.now 3 (by omega)
      have hgn5 : gn < w5.heap.size := own_lt (show w5.ownsRow _ 9 1 (.slice (some ⟨gn, 0, none⟩) 6 cn) 6 _ from hw5.now) (g := gn) rfl
      have hgr5 : w5.frozen? ⟨gn, 3, none⟩ = false := by
        obtain ⟨cur, hcur⟩ := own_blk (show w5.ownsRow _ 9 1 (.slice (some ⟨gn, 0, none⟩) 6 cn) 6 _ from hw5.now) (g := gn) rfl
        exact hcur.frozen 3
      have hbk5 : BytesIn w5 (some ⟨wd.heap.size, 0, none⟩) (byB k50 lo) := (HBi.out).fr hs5.fr3 (fun a ha e => by
        injection ha with ha
        subst ha
        have := HWd.out.tx.all3lt e
        have e : wd.heap.size < wd.heap.size := this
        omega)
      have HCv : Hid (∀ W, Fr Nob w5 W → (convert 40 9 (.slice (some ⟨wd.heap.size, 0, none⟩) lo lo)).run Tryz.prog W = .ok (.string (tB (byB k50 lo))) W) := fun W hW => by
        have := conv_in (hbk5.new hW) lo
        rw [HBl.out] at this
        exact this
      rw [tS_eq] at r5
      obtain ⟨pc, hpc⟩ : ∃ l, ovPg xs k 3 = l := ⟨_, rfl⟩
      have hpl : pc.length = 480 := by rw [← hpc]; exact HLen.out
      rw [hpc] at r5
      have s1 := tB_take pc at_ (by omega)
      have s2 := tB_drop pc (at_ + lo)
      rw [hpl] at s2
      have s3 := tB_lay pc at_ (byB k50 lo)
      rw [HBl.out] at s3
      have s4 := tB_append (pc.take at_) (byB k50 lo)
      have z61 := tB_size pc
      rw [hpl] at z61
      have z62 : (tB (pc.take at_)).size ≤ 480 := by rw [tB_size, List.length_take]; omega
      have z63 : (tB (byB k50 lo)).size ≤ 480 := by rw [tB_size, HBl.out]; omega
      have z64 : (tB (pc.take at_ ++ byB k50 lo)).size ≤ 960 := by rw [tB_size, List.length_append, List.length_take, HBl.out]; omega
      have z65 : (tB (pc.drop (at_ + lo))).size ≤ 480 := by rw [tB_size, List.length_drop]; omega
      rw [s4] at s3
      obtain ⟨B1, hB1⟩ : ∃ x, tB pc = x := ⟨_, rfl⟩
      obtain ⟨B2, hB2⟩ : ∃ x, tB (pc.take at_) = x := ⟨_, rfl⟩
      obtain ⟨B3, hB3⟩ : ∃ x, tB (byB k50 lo) = x := ⟨_, rfl⟩
      obtain ⟨B4, hB4⟩ : ∃ x, tB (pc.take at_ ++ byB k50 lo) = x := ⟨_, rfl⟩
      obtain ⟨B5, hB5⟩ : ∃ x, tB (pc.drop (at_ + lo)) = x := ⟨_, rfl⟩
      obtain ⟨B6, hB6⟩ : ∃ x, tB (layB pc at_ (byB k50 lo)) = x := ⟨_, rfl⟩
      rw [hB1] at r5 s1 s2 z61
      rw [hB2] at s1 s4 z62
      rw [hB3] at s4 z63 HCv
      rw [hB4] at s3 s4 z64
      rw [hB5] at s2 s3 z65
      rw [hB6] at s3
      have S1 := Lib.hid s1
      have S2 := Lib.hid s2
      have S3 := Lib.hid s3
      have S4 := Lib.hid s4
      have Z61 := Lib.hid z61
      have HB6 := Lib.hid hB6
      have HPc := Lib.hid hpc
      obtain ⟨at2, hat2⟩ : ∃ x, at_ + lo = x := ⟨_, rfl⟩
      have t2 : IntKind.i64.wrap ((at_ : Int) + (lo : Int)) = (at2 : Int) := by rw [IntKind.wrap_i64]; omega
      rw [hat2] at S2
      have hat2b : at2 ≤ 480 := by omega
      have T2' := Lib.hid t2
      clear h5 hb5 hs5 hw5 hk5 HWr hbk5 s1 s2 s3 s4 hB1 hB2 hB3 hB4 hB5 hB6 hpc hpl t2 hat2 z61 HK4 HW4 HBi a4 z4 HWd HB1
      go_wp2_with fail
      have hS : Fr Nob w5 w5.drew := (Fr.refl _ w5).drew
      refine Rg.begin (Fr Nob w5) [27] (by kernel_rfl) ?_
      refine Rg.op 0 (some 100) hS (v := ?v0n) (a' := ?a0n) (hy := fun wz hwz => ?h0n) (ha := ?b0n) (h := ?_)
      case h0n => (go_simp; try with_reducible rfl)
      case b0n => (simp only [Act.put, List.setIfInBounds_toArray, List.set_cons_zero, List.set_cons_succ]; rfl)
      refine Rg.op 1 (some 101) hS (v := ?v1n) (a' := ?a1n) (hy := fun wz hwz => ?h1n) (ha := ?b1n) (h := ?_)
      case h1n => (have hpp := Nat.lt_of_lt_of_le z5 hwz.size; go_simp; try with_reducible rfl)
      case b1n => (simp only [Act.put, List.setIfInBounds_toArray, List.set_cons_zero, List.set_cons_succ]; rfl)
      refine Rg.op 2 (some 102) hS (v := ?v2n) (a' := ?a2n) (hy := fun wz hwz => ?h2n) (ha := ?b2n) (h := ?_)
      case h2n => (have hpp := Nat.lt_of_lt_of_le z5 hwz.size; go_simp; try with_reducible rfl)
      case b2n => (simp only [Act.put, List.setIfInBounds_toArray, List.set_cons_zero, List.set_cons_succ]; rfl)
      refine Rg.op 3 (some 103) hS (v := (.slice (some ⟨gn, 0, none⟩) 6 cn)) (a' := ?a3n) (hy := fun wz hwz => ?h3n) (ha := ?b3n) (h := ?_)
      case h3n => (have cx := (hwz.cell (p := ⟨g, 4, none⟩) z5 (fun h => h)).trans n5; have hpp := Nat.lt_of_lt_of_le z5 hwz.size; go_simp; try with_reducible rfl)
      case b3n => (simp only [Act.put, List.setIfInBounds_toArray, List.set_cons_zero, List.set_cons_succ]; rfl)
      refine Rg.op 4 (some 104) hS (v := ?v4n) (a' := ?a4n) (hy := fun wz hwz => ?h4n) (ha := ?b4n) (h := ?_)
      case h4n => (go_simp; try with_reducible rfl)
      case b4n => (simp only [Act.put, List.setIfInBounds_toArray, List.set_cons_zero, List.set_cons_succ]; rfl)
      refine Rg.op 5 (some 105) hS (v := ?v5n) (a' := ?a5n) (hy := fun wz hwz => ?h5n) (ha := ?b5n) (h := ?_)
      case h5n => (have hpp := Nat.lt_of_lt_of_le z5 hwz.size; go_simp; try with_reducible rfl)
      case b5n => (simp only [Act.put, List.setIfInBounds_toArray, List.set_cons_zero, List.set_cons_succ]; rfl)
      refine Rg.op 6 (some 106) hS (v := ?v6n) (a' := ?a6n) (hy := fun wz hwz => ?h6n) (ha := ?b6n) (h := ?_)
      case h6n => (have hpp := Nat.lt_of_lt_of_le z5 hwz.size; go_simp; try with_reducible rfl)
      case b6n => (simp only [Act.put, List.setIfInBounds_toArray, List.set_cons_zero, List.set_cons_succ]; rfl)
      refine Rg.op 7 (some 107) hS (v := (.slice (some ⟨gn, 0, none⟩) 6 cn)) (a' := ?a7n) (hy := fun wz hwz => ?h7n) (ha := ?b7n) (h := ?_)
      case h7n => (have cx := (hwz.cell (p := ⟨g, 4, none⟩) z5 (fun h => h)).trans n5; have hpp := Nat.lt_of_lt_of_le z5 hwz.size; go_simp; try with_reducible rfl)
      case b7n => (simp only [Act.put, List.setIfInBounds_toArray, List.set_cons_zero, List.set_cons_succ]; rfl)
      refine Rg.op 8 (some 108) hS (v := (.pointer (some ⟨gn, 3, none⟩))) (a' := ?a8n) (hy := fun wz hwz => ?h8n) (ha := ?b8n) (h := ?_)
      case h8n => (have hp2 := Nat.lt_of_lt_of_le hgn5 hwz.size; go_simp; try with_reducible rfl)
      case b8n => (simp only [Act.put, List.setIfInBounds_toArray, List.set_cons_zero, List.set_cons_succ]; rfl)
      refine Rg.op 9 (some 109) hS (v := (.string B1)) (a' := ?a9n) (hy := fun wz hwz => ?h9n) (ha := ?b9n) (h := ?_)
      case h9n => (have cx := (hwz.cell (p := ⟨gn, 3, none⟩) hgn5 (fun h => h)).trans r5; have hp2 := Nat.lt_of_lt_of_le hgn5 hwz.size; go_simp; try with_reducible rfl)
      case b9n => (simp only [Act.put, List.setIfInBounds_toArray, List.set_cons_zero, List.set_cons_succ]; rfl)
      refine Rg.op 10 (some 110) hS (v := ?v10n) (a' := ?a10n) (hy := fun wz hwz => ?h10n) (ha := ?b10n) (h := ?_)
      case h10n => (go_simp; try with_reducible rfl)
      case b10n => (simp only [Act.put, List.setIfInBounds_toArray, List.set_cons_zero, List.set_cons_succ]; rfl)
      refine Rg.op 11 (some 111) hS (v := (.string B2)) (a' := ?a11n) (hy := fun wz hwz => ?h11n) (ha := ?b11n) (h := ?_)
      case h11n => (have e1 := S1.out; have e2 := Z61.out; have e3 : (at_ : Int) ≤ 480 := (by omega); go_simp; try with_reducible rfl)
      case b11n => (simp only [Act.put, List.setIfInBounds_toArray, List.set_cons_zero, List.set_cons_succ]; rfl)
      refine Rg.op 12 (some 112) hS (v := ?v12n) (a' := ?a12n) (hy := fun wz hwz => ?h12n) (ha := ?b12n) (h := ?_)
      case h12n => (go_simp; try with_reducible rfl)
      case b12n => (simp only [Act.put, List.setIfInBounds_toArray, List.set_cons_zero, List.set_cons_succ]; rfl)
      refine Rg.op 13 (some 113) hS (v := (.string B3)) (a' := ?a13n) (hy := fun wz hwz => ?h13n) (ha := ?b13n) (h := ?_)
      case h13n => (have hcv := HCv.out wz hwz; go_simp; try with_reducible rfl)
      case b13n => (simp only [Act.put, List.setIfInBounds_toArray, List.set_cons_zero, List.set_cons_succ]; rfl)
      refine Rg.op 14 (some 114) hS (v := (.string B4)) (a' := ?a14n) (hy := fun wz hwz => ?h14n) (ha := ?b14n) (h := ?_)
      case h14n => (have e1 := S4.out; have e2 : B2.size + B3.size ≤ 9223372036854775807 := (by omega); go_simp; try with_reducible rfl)
      case b14n => (simp only [Act.put, List.setIfInBounds_toArray, List.set_cons_zero, List.set_cons_succ]; rfl)
      refine Rg.op 15 (some 115) hS (v := ?v15n) (a' := ?a15n) (hy := fun wz hwz => ?h15n) (ha := ?b15n) (h := ?_)
      case h15n => (go_simp; try with_reducible rfl)
      case b15n => (simp only [Act.put, List.setIfInBounds_toArray, List.set_cons_zero, List.set_cons_succ]; rfl)
      refine Rg.op 16 (some 116) hS (v := ?v16n) (a' := ?a16n) (hy := fun wz hwz => ?h16n) (ha := ?b16n) (h := ?_)
      case h16n => (have hpp := Nat.lt_of_lt_of_le z5 hwz.size; go_simp; try with_reducible rfl)
      case b16n => (simp only [Act.put, List.setIfInBounds_toArray, List.set_cons_zero, List.set_cons_succ]; rfl)
      refine Rg.op 17 (some 117) hS (v := ?v17n) (a' := ?a17n) (hy := fun wz hwz => ?h17n) (ha := ?b17n) (h := ?_)
      case h17n => (have hpp := Nat.lt_of_lt_of_le z5 hwz.size; go_simp; try with_reducible rfl)
      case b17n => (simp only [Act.put, List.setIfInBounds_toArray, List.set_cons_zero, List.set_cons_succ]; rfl)
      refine Rg.op 18 (some 118) hS (v := (.slice (some ⟨gn, 0, none⟩) 6 cn)) (a' := ?a18n) (hy := fun wz hwz => ?h18n) (ha := ?b18n) (h := ?_)
      case h18n => (have cx := (hwz.cell (p := ⟨g, 4, none⟩) z5 (fun h => h)).trans n5; have hpp := Nat.lt_of_lt_of_le z5 hwz.size; go_simp; try with_reducible rfl)
      case b18n => (simp only [Act.put, List.setIfInBounds_toArray, List.set_cons_zero, List.set_cons_succ]; rfl)
      refine Rg.op 19 (some 119) hS (v := (.pointer (some ⟨gn, 3, none⟩))) (a' := ?a19n) (hy := fun wz hwz => ?h19n) (ha := ?b19n) (h := ?_)
      case h19n => (have hp2 := Nat.lt_of_lt_of_le hgn5 hwz.size; go_simp; try with_reducible rfl)
      case b19n => (simp only [Act.put, List.setIfInBounds_toArray, List.set_cons_zero, List.set_cons_succ]; rfl)
      refine Rg.op 20 (some 120) hS (v := (.string B1)) (a' := ?a20n) (hy := fun wz hwz => ?h20n) (ha := ?b20n) (h := ?_)
      case h20n => (have cx := (hwz.cell (p := ⟨gn, 3, none⟩) hgn5 (fun h => h)).trans r5; have hp2 := Nat.lt_of_lt_of_le hgn5 hwz.size; go_simp; try with_reducible rfl)
      case b20n => (simp only [Act.put, List.setIfInBounds_toArray, List.set_cons_zero, List.set_cons_succ]; rfl)
      refine Rg.op 21 (some 121) hS (v := ?v21n) (a' := ?a21n) (hy := fun wz hwz => ?h21n) (ha := ?b21n) (h := ?_)
      case h21n => (go_simp; try with_reducible rfl)
      case b21n => (simp only [Act.put, List.setIfInBounds_toArray, List.set_cons_zero, List.set_cons_succ]; rfl)
      refine Rg.op 22 (some 122) hS (v := ?v22n) (a' := ?a22n) (hy := fun wz hwz => ?h22n) (ha := ?b22n) (h := ?_)
      case h22n => (go_simp; try with_reducible rfl)
      case b22n => (simp only [Act.put, List.setIfInBounds_toArray, List.set_cons_zero, List.set_cons_succ]; rfl)
      refine Rg.op 23 (some 123) hS (v := (.int .i64 at2)) (a' := ?a23n) (hy := fun wz hwz => ?h23n) (ha := ?b23n) (h := ?_)
      case h23n => (have e0 := T2'.out; go_simp; try with_reducible rfl)
      case b23n => (simp only [Act.put, List.setIfInBounds_toArray, List.set_cons_zero, List.set_cons_succ]; rfl)
      refine Rg.op 24 (some 124) hS (v := (.string B5)) (a' := ?a24n) (hy := fun wz hwz => ?h24n) (ha := ?b24n) (h := ?_)
      case h24n => (have e1 := S2.out; have e2 := Z61.out; have e3 : (at2 : Int) ≤ 480 := (by omega); go_simp; try with_reducible rfl)
      case b24n => (simp only [Act.put, List.setIfInBounds_toArray, List.set_cons_zero, List.set_cons_succ]; rfl)
      refine Rg.op 25 (some 125) hS (v := (.string B6)) (a' := ?a25n) (hy := fun wz hwz => ?h25n) (ha := ?b25n) (h := ?_)
      case h25n => (have e1 := S3.out; have e2 : B4.size + B5.size ≤ 9223372036854775807 := (by omega); go_simp; try with_reducible rfl)
      case b25n => (simp only [Act.put, List.setIfInBounds_toArray, List.set_cons_zero, List.set_cons_succ]; rfl)
      refine Rg.op 26 (some 126) hS (v := (.pointer (some ⟨gn, 3, none⟩))) (a' := ?a26n) (hy := fun wz hwz => ?h26n) (ha := ?b26n) (h := ?_)
      case h26n => (have hp2 := Nat.lt_of_lt_of_le hgn5 hwz.size; go_simp; try with_reducible rfl)
      case b26n => (simp only [Act.put, List.setIfInBounds_toArray, List.set_cons_zero, List.set_cons_succ]; rfl)
      refine Rg.store 27 (w' := ?w27n) (hrun := ?h27n) (hS := (fun h => absurd (by decide) h)) (h := ?_)
      case h27n => (have cc := r5; have ff := hgr5; have hh := hgn5; go_simp; try with_reducible rfl)
      refine Rg.done _ (h := ?_)
      have hw6 := (HW5.out.setNow 3 (layB pc at_ (byB k50 lo)) (by omega)).new (Fr.refl Nob _).drew
      have hN6 : setP (ovPg xs k) 3 (layB pc at_ (byB k50 lo)) = ovPg xs (k + 1) := by rw [← HPc.out, setP_lay, ← HK50.out]; exact HPo.out
      have hS6 : tS (layB pc at_ (byB k50 lo)) = .string B6 := by rw [tS_eq, HB6.out]
      rw [hN6, hS6] at hw6
      have hf56 : Fr (fun b => b = gn) w5 (w5.setCell ⟨gn, 3, none⟩ (.string B6)).drew := ((Fr.refl (fun b => b = gn) w5).setCell (p := ⟨gn, 3, none⟩) (.inr rfl) _).drew
      have hk6 := HK5.out.step hf56 (fun b e => .inr (by rw [show b = gn from e]; rfl)) (fun b hb => .inl hb)
      obtain ⟨w6, hw6e⟩ : ∃ W, (w5.setCell ⟨gn, 3, none⟩ (.string B6)).drew = W := ⟨_, rfl⟩
      rw [hw6e] at hw6 hk6 ⊢
      have HW6 := Lib.hid hw6
      have HK6 := Lib.hid hk6
      have a6 := hw6.cs
      have z6 := hw6.lt
      clear hw6 hk6 hf56 hN6 hS6 hw6e HW5 HK5 hS r5 hgr5 hgn5 n5 a5 z5 HCv S1 S2 S3 S4 Z61 HB6 T2' HPc hat2b HLen HBl EY EZ ER0 ER1 EL0 HPo HXw HHy
      by_cases hk0 : k = 0
      · subst hk0
        have hsv := Save_tb HW6.out.tx HB5.out (by omega)
        have HSv := Lib.hid hsv
        have HD5 := Lib.hid HB5.out.d
        clear hsv
        go_wp2_with fail
        refine HSv.out.mono ?_
        rintro e w7 ⟨rfl, RS7, T7, h7, hb7, hs7⟩
        have hw7 := HW6.out.step h7 hs7 (hb7.d.trans HD5.out.symm)
        have HW7 := Lib.hid hw7
        have HB7 := Lib.hid hb7
        clear h7 hb7 hs7 hw7 HSv HW6 HK6 a6 z6
        have hgnq : gn < w7.heap.size := own_lt (show w7.ownsRow _ 9 1 (.slice (some ⟨gn, 0, none⟩) 6 cn) 6 _ from HW7.out.now) (g := gn) rfl
        have hfeq : Fr Nob w7 (w7.alloc (.cells #[] 9)) := (Fr.refl _ w7).alloc _
        have hoeq : (w7.alloc (.cells #[] 9)).ownsRow w.heap.size 9 1 (.slice (some ⟨w7.heap.size, 0, none⟩) 0 0) 0 [] := own_base (World.ownsRow_made w7 #[] 0 (Nat.le_refl _) (by decide) rfl) (fun b hb => by
          have e : w7.heap.size = b := by simpa [Value.ownBlock] using hb
          have := HW7.out.fr.size
          omega)
        have HEq := Lib.hid hoeq
        have hnrq := HW7.out.now
        have HNcq : Hid (∀ j u, ((List.range 6).map fun i => tS (ovPg xs (0 + 1) i))[j]? = some u → (w7.alloc (.cells #[] 9)).cell? ((⟨gn, 0, none⟩ : Addr).add j) = some u) := fun j u hu => by
          have hj : j < 6 := by have := (List.getElem?_eq_some_iff.1 hu).1; simpa using this
          rw [Addr.add_mid, Nat.zero_add, hfeq.cell (p := ⟨gn, j, none⟩) hgnq (fun h => h), Row6.at_ hnrq j hj]
          rw [List.getElem?_map, List.getElem?_range hj] at hu
          exact hu
        obtain ⟨slq, hslq⟩ : ∃ l, ((List.range 6).map fun i => tS (ovPg xs (0 + 1) i)) = l := ⟨_, rfl⟩
        have hsllq := row6_list_len (ovPg xs (0 + 1))
        have hsl1q := row6_one (ovPg xs (0 + 1))
        rw [hslq] at HNcq hsllq hsl1q
        have HSlq := Lib.hid hslq
        have HSllq := Lib.hid hsllq
        have HSl1q := Lib.hid hsl1q
        have HFeq := Lib.hid hfeq
        have hzcq := HW7.out.fr.size
        have nq := HW7.out.cn
        have zcq := HW7.out.lt
        clear hfeq hoeq hnrq hslq hsllq hsl1q
        go_wp2_with (at_builtin; go_must (refine wpList_append_own_at _ rfl (.tmp 140) (.tmp 144) 34 rfl w.heap.size 9 i0 (.string ⟨#[]⟩) 1 16 Tryz.underlying34 hi0 iz0 iz1 iz2 rfl (by decide) (.slice (some ⟨w7.heap.size, 0, none⟩) 0 0) 0 [] rfl HEq.out ⟨gn, 0, none⟩ 6 cn slq rfl HSllq.out HNcq.out HSl1q.out (by unfold maxLen; omega) (by omega) (by have := HFeq.out.size; omega) ?_); intro vc wqa hown hgr hnil hat; obtain ⟨gaq, caq, hvc, _, hgz⟩ := hown.form (by omega); subst hvc; have hgaq : w7.heap.size ≤ gaq := (by rcases hat with e | e; (have e2 : gaq = w7.heap.size := (by simpa [Value.ownBlock] using e); omega); (have e2 : gaq = (w7.alloc (.cells #[] 9)).heap.size := (by simpa [Value.ownBlock] using e); have := HFeq.out.size; omega)); have HFcq : Hid (Fr Nob w7 wqa) := HFeq.out.grown hgr (fun r hr => .inl (by have e2 : w7.heap.size = r := (by simpa [Value.ownBlock] using hr); omega)); have HRowq : Hid (Row6 wqa w.heap.size (.slice (some ⟨gaq, 0, none⟩) 6 caq) (ovPg xs (0 + 1))) := (by unfold Row6; rw [Hid, HSlq.out]; exact hown); clear hown hgr hnil hat hgz)
        have hnew : ∃ M' K' : Nat, M' ≤ 10 + 3 * (0 + 1) ∧ K' ≤ 10 + 2 * (0 + 1) ∧ Hid (∃ RS RO U T, TW w wqa RS RO U g s M' K' T (4096 : Nat) 1 (.slice (some ⟨gn, 0, none⟩) 6 cn) lv (ovPg xs (0 + 1)) ∧ TB T d 4096 (ovPg xs (0 + 1)) (ovPg xs 0) (ovSv xs (0 + 1)) (0 + 1) (ovL (0 + 1)) 0 (194694 - 248 * ((0 + 1 : Nat) : Int)) ∧ KeptRow wqa w.heap.size (AllN RS RO U (.slice (some ⟨gn, 0, none⟩) 6 cn)) (.slice (some ⟨gaq, 0, none⟩) 6 caq) (ovPg xs (ovL (0 + 1)))) :=
          ⟨_, _, by omega, by omega, _, _, _, _, HW7.out.new HFcq.out, HB7.out.le (by omega), HRowq.out, fun b hb e => by
            have e2 : gaq = b := by simpa [Value.ownBlock] using hb
            rcases e with e | e
            · have := HW7.out.tx.all3lt e; omega
            · have e3 : gn = b := by simpa [Value.ownBlock] using e
              omega⟩
        have HNew := Lib.hid hnew
        clear hnew
        go_wp2
        go_roundw
        case rel =>
          obtain ⟨M', K', q1, q2, q3⟩ := HNew.out
          first
            | exact ⟨0 + 1, M', K', by go_num, by rfl, by omega, by omega, q1, q2, q3⟩
            | ((repeat apply Exists.intro); exact ⟨⟨0 + 1, M', K', by go_num, by rfl, by omega, by omega, q1, q2, q3⟩, rfl⟩)
        case measure => simp [intOf]
      · have hk0I : ¬ (k : Int) = 0 := by omega
        have hol : ovL k = 1 := if_neg hk0
        have hol1 : ovL (k + 1) = 1 := if_neg (by omega)
        have hosv : ovSv xs k = ovSv xs (k + 1) := by unfold ovSv; rw [if_neg hk0, if_neg (by omega)]
        have hb6 := HB5.out
        rw [hosv, hol, ← hol1] at hb6
        have hk6 := HK6.out
        rw [hol, ← hol1] at hk6
        have hnew : ∃ M' K' : Nat, M' ≤ 10 + 3 * (k + 1) ∧ K' ≤ 10 + 2 * (k + 1) ∧ Hid (∃ RS RO U T, TW w w6 RS RO U g s M' K' T (4096 : Nat) 1 (.slice (some ⟨gn, 0, none⟩) 6 cn) lv (ovPg xs (k + 1)) ∧ TB T d 4096 (ovPg xs (k + 1)) (ovPg xs 0) (ovSv xs (k + 1)) (k + 1) (ovL (k + 1)) 0 (194694 - 248 * ((k + 1 : Nat) : Int)) ∧ KeptRow w6 w.heap.size (AllN RS RO U (.slice (some ⟨gn, 0, none⟩) 6 cn)) u6 (ovPg xs (ovL (k + 1)))) :=
          ⟨_, _, by omega, by omega, _, _, _, _, HW6.out, hb6.le (by omega), hk6⟩
        have HNew := Lib.hid hnew
        have HOl := Lib.hid (hol.trans hol1.symm)
        clear hnew hb6 hk6 hol hol1 hosv HW6 HK6 HB5 a6 z6
        go_wp2
        go_roundw
        case rel =>
          obtain ⟨M', K', q1, q2, q3⟩ := HNew.out
          first
            | exact ⟨k + 1, M', K', by go_num, by rw [HOl.out], by omega, by omega, q1, q2, q3⟩
            | ((repeat apply Exists.intro); exact ⟨⟨k + 1, M', K', by go_num, by rw [HOl.out], by omega, by omega, q1, q2, q3⟩, rfl⟩)
        case measure => simp [intOf]; omega
    · go_upto_region 8 with fail
      go_cut [72] (fun s72 wx => s72 = .bool false ∧ wx = wr)
      case first =>
        rcases (by omega : ¬ k < xs.length ∨ (k < xs.length ∧ ¬ k < 20)) with hno | ⟨hno1, hno2⟩
        · have hI : ¬ (k : Int) < (xs.length : Int) := by omega
          go_wp2_with fail
          go_meet
          exact ⟨rfl, rfl⟩
        · have hI : (k : Int) < (xs.length : Int) := by omega
          have hI2 : ¬ (k : Int) < 20 := by omega
          go_wp2_with fail
          go_meet
          exact ⟨rfl, rfl⟩
      case rest =>
        obtain ⟨rfl, hwc⟩ := hcut
        obtain rfl : wr = _ := hwc.symm
        obtain ⟨gf, cf, hvf, _, hgf⟩ := World.ownsRow.form (show wr.ownsRow w.heap.size 9 1 u6 6 _ from HKr1.out.1) (by omega)
        subst hvf
        have a1 := HW1.out.cs
        have z1 := HW1.out.lt
        have n1 := HW1.out.cn
        have hng := HW1.out.ng
        have hngn : ¬ All3 RS1' RO1' U1' gn := HW1.out.nvb gn rfl
        have hngf : ¬ All3 RS1' RO1' U1' gf := fun e => HKr1.out.2 gf rfl (.inl e)
        have hov3 : ovPg xs 0 3 = byB 9 480 := by
          show layP CZ 3 0 (byB 9 480) 3 = _
          unfold layP layB
          have hz : (CZ 3).length = 480 := zeros_length 480
          rw [if_pos rfl, byB_length, List.take_zero, List.nil_append, Nat.zero_add, List.drop_of_length_le (by omega), List.append_nil]
        have HOv3 := Lib.hid hov3
        obtain ⟨B9', hB9'⟩ : ∃ x, tB (byB 9 480) = x := ⟨_, rfl⟩
        have HB9' := Lib.hid hB9'
        have HNd : Hid (∀ W, Calls Tryz.prog 12 #[.int .i64 1, .int .i64 64] W fun e w' => e = .returned (.int .i64 152) ∧ W = w') := fun W => NeedT_any 1 64 W (by omega) (by omega) (by omega)
        clear hov3 hB9'
        go_wp2_with fail
        have hS : Fr (All3 RS1' RO1' U1') wr wr.drew := (Fr.refl _ wr).drew
        have hSn : Fr Nob wr wr.drew := (Fr.refl _ wr).drew
        refine Rg.begin (Fr (All3 RS1' RO1' U1') wr) [] (by kernel_rfl) ?_
        refine Rg.op 0 (some 146) hS (v := ?v0d) (a' := ?a0d) (hy := fun wz hwz => ?h0d) (ha := ?b0d) (h := ?_)
        case h0d => (go_simp; try with_reducible rfl)
        case b0d => (simp only [Act.put, List.setIfInBounds_toArray, List.set_cons_zero, List.set_cons_succ]; rfl)
        refine Rg.op 1 (some 147) hS (v := ?v1d) (a' := ?a1d) (hy := fun wz hwz => ?h1d) (ha := ?b1d) (h := ?_)
        case h1d => (have hpp := Nat.lt_of_lt_of_le z1 hwz.size; go_simp; try with_reducible rfl)
        case b1d => (simp only [Act.put, List.setIfInBounds_toArray, List.set_cons_zero, List.set_cons_succ]; rfl)
        refine Rg.op 2 (some 148) hS (v := ?v2d) (a' := ?a2d) (hy := fun wz hwz => ?h2d) (ha := ?b2d) (h := ?_)
        case h2d => (have hpp := Nat.lt_of_lt_of_le z1 hwz.size; go_simp; try with_reducible rfl)
        case b2d => (simp only [Act.put, List.setIfInBounds_toArray, List.set_cons_zero, List.set_cons_succ]; rfl)
        refine Rg.op 3 (some 149) hS (v := (.pointer (some ⟨s, 0, none⟩))) (a' := ?a3d) (hy := fun wz hwz => ?h3d) (ha := ?b3d) (h := ?_)
        case h3d => (have cx := (hwz.cell (p := ⟨g, 1, none⟩) z1 hng).trans a1; have hpp := Nat.lt_of_lt_of_le z1 hwz.size; go_simp; try with_reducible rfl)
        case b3d => (simp only [Act.put, List.setIfInBounds_toArray, List.set_cons_zero, List.set_cons_succ]; rfl)
        refine Rg.op 4 (some 150) hS (v := ?v4d) (a' := ?a4d) (hy := fun wz hwz => ?h4d) (ha := ?b4d) (h := ?_)
        case h4d => (go_simp; try with_reducible rfl)
        case b4d => (simp only [Act.put, List.setIfInBounds_toArray, List.set_cons_zero, List.set_cons_succ]; rfl)
        refine Rg.op 5 (some 151) hS (v := ?v5d) (a' := ?a5d) (hy := fun wz hwz => ?h5d) (ha := ?b5d) (h := ?_)
        case h5d => (have hpp := Nat.lt_of_lt_of_le z1 hwz.size; go_simp; try with_reducible rfl)
        case b5d => (simp only [Act.put, List.setIfInBounds_toArray, List.set_cons_zero, List.set_cons_succ]; rfl)
        refine Rg.op 6 (some 152) hS (v := ?v6d) (a' := ?a6d) (hy := fun wz hwz => ?h6d) (ha := ?b6d) (h := ?_)
        case h6d => (have hpp := Nat.lt_of_lt_of_le z1 hwz.size; go_simp; try with_reducible rfl)
        case b6d => (simp only [Act.put, List.setIfInBounds_toArray, List.set_cons_zero, List.set_cons_succ]; rfl)
        refine Rg.op 7 (some 153) hS (v := (.slice (some ⟨gn, 0, none⟩) 6 cn)) (a' := ?a7d) (hy := fun wz hwz => ?h7d) (ha := ?b7d) (h := ?_)
        case h7d => (have cx := (hwz.cell (p := ⟨g, 4, none⟩) z1 hng).trans n1; have hpp := Nat.lt_of_lt_of_le z1 hwz.size; go_simp; try with_reducible rfl)
        case b7d => (simp only [Act.put, List.setIfInBounds_toArray, List.set_cons_zero, List.set_cons_succ]; rfl)
        have hst := Stands_tx (HW1.out.tx.new hSn) gn cn (fun i hi => by rw [congrFun HB1.out.pages i]; exact Row6.at_ (HW1.out.new hSn).now i hi) (fun e => hngn (.inl e)) (fun e => hngn (.inr (.inr e))) (by omega)
        have HSt := Lib.hid hst
        clear hst
        refine Rg.call 8 (some 154) (hrun := ?h8d) (hcall := HSt.out) (h := ?_)
        case h8d => (go_simp)
        rintro e w2 ⟨rfl, U2, h2, hs2⟩
        have hS2 : Fr (All3 RS1' RO1' U1') wr w2 := hS.trans hs2.fr3
        have HSu2 := Lib.hid ((Subs.of hSn).trans hs2)
        have hw2 := (HW1.out.new hSn).step h2 hs2 rfl
        have HW2 := Lib.hid hw2
        clear h2 hs2 hw2 HSt
        refine ⟨_, ?a8d, rfl, ?b8d, (fun _ => hS2), ?_⟩
        case b8d => (simp only [Act.put, List.setIfInBounds_toArray, List.set_cons_zero, List.set_cons_succ]; rfl)
        refine Rg.op 9 (some 155) hS2 (v := ?v9d) (a' := ?a9d) (hy := fun wz hwz => ?h9d) (ha := ?b9d) (h := ?_)
        case h9d => (go_simp; try with_reducible rfl)
        case b9d => (simp only [Act.put, List.setIfInBounds_toArray, List.set_cons_zero, List.set_cons_succ]; rfl)
        refine Rg.done _ (h := ?_)
        clear hS hSn hS2 a1 z1 n1
        cases back with
        | false =>
          have hend : ∃ RS RO U T C svs n last un q M K, TW w w2 RS RO U g s M K T (4096 : Nat) 1 (.slice (some ⟨gn, 0, none⟩) 6 cn) lv (ovPg xs k) ∧ TB T d 4096 C (ovPg xs 0) svs n last un q ∧ 0 ≤ q ∧ n ≤ 20 ∧ M ≤ 1000 ∧ K ≤ 1000 := ⟨_, _, _, _, _, _, _, _, _, _, _, _, HW2.out, HB1.out, by omega, by omega, by omega, by omega⟩
          have HEnd := Lib.hid hend
          clear hend
          obtain ⟨RSa, ROa, Ua, Ta, Ca, sva, na, la, una, qa, Ma, Ka, hwA, hbA, hqa, hna, hMa, hKa⟩ := HEnd.out
          have aA := hwA.cs
          have zA := hwA.lt
          have HAb := Lib.hid (Abort_tb hwA.tx hbA hqa (by omega) (by omega))
          have HWA := Lib.hid hwA
          have HDA := Lib.hid hbA.d
          clear hwA hbA hqa
          go_wp2_with fail
          refine HAb.out.mono ?_
          rintro e wb ⟨rfl, RSb, Ub, Tb, hB, hbB, hsB⟩
          have hwB := HWA.out.step hB hsB (hbB.d.trans HDA.out.symm)
          have HRd := Lib.hid (Read_tx hwB.tx 3 (by omega) (by omega))
          have hv3 : (Tb.V 3).d = byB 9 480 := by rw [congrFun hbB.pages 3]; exact HOv3.out
          have HV3 := Lib.hid hv3
          have aB := hwB.cs
          have zB := hwB.lt
          have HWB := Lib.hid hwB
          clear hB hbB hsB hwB hv3 HAb HWA HDA aA zA
          go_wp2_with fail
          refine HRd.out.mono ?_
          rintro e wc ⟨gr, rfl, hcr, hgr, Uc, hC, hgU, hsC⟩
          have hwC := HWB.out.step hC hsC rfl
          rw [HV3.out] at hcr
          have HCvA : Hid (∀ W, Fr Nob wc W → (convert 40 9 (.slice (some ⟨gr, 0, none⟩) 480 480)).run Tryz.prog W = .ok (.string B9') W) := fun W hW => by
            have := conv_in (hcr.bytes.new hW) 480
            rw [byB_length] at this
            rw [← HB9'.out]
            exact this
          have HWC := Lib.hid hwC
          clear hC hsC hwC hcr hgU HRd HWB aB zB
          go_wp2_with fail
          have hS : Fr Nob wc wc.drew := (Fr.refl _ wc).drew
          refine Rg.begin (Fr Nob wc) [] (by kernel_rfl) ?_
          refine Rg.op 0 (some 191) hS (v := ?v0e) (a' := ?a0e) (hy := fun wz hwz => ?h0e) (ha := ?b0e) (h := ?_)
          case h0e => (go_simp; try with_reducible rfl)
          case b0e => (simp only [Act.put, List.setIfInBounds_toArray, List.set_cons_zero, List.set_cons_succ]; rfl)
          refine Rg.op 1 (some 192) hS (v := ?v1e) (a' := ?a1e) (hy := fun wz hwz => ?h1e) (ha := ?b1e) (h := ?_)
          case h1e => (go_simp; try with_reducible rfl)
          case b1e => (simp only [Act.put, List.setIfInBounds_toArray, List.set_cons_zero, List.set_cons_succ]; rfl)
          refine Rg.op 2 (some 193) hS (v := ?v2e) (a' := ?a2e) (hy := fun wz hwz => ?h2e) (ha := ?b2e) (h := ?_)
          case h2e => (go_simp; try with_reducible rfl)
          case b2e => (simp only [Act.put, List.setIfInBounds_toArray, List.set_cons_zero, List.set_cons_succ]; rfl)
          refine Rg.op 3 (some 194) hS (v := ?v3e) (a' := ?a3e) (hy := fun wz hwz => ?h3e) (ha := ?b3e) (h := ?_)
          case h3e => (go_simp; try with_reducible rfl)
          case b3e => (simp only [Act.put, List.setIfInBounds_toArray, List.set_cons_zero, List.set_cons_succ]; rfl)
          refine Rg.op 4 (some 195) hS (v := (.string B9')) (a' := ?a4e) (hy := fun wz hwz => ?h4e) (ha := ?b4e) (h := ?_)
          case h4e => (have hcv := HCvA.out wz hwz; go_simp; try with_reducible rfl)
          case b4e => (simp only [Act.put, List.setIfInBounds_toArray, List.set_cons_zero, List.set_cons_succ]; rfl)
          refine Rg.call 5 (some 196) (hrun := ?h5e) (hcall := HBy9.out _) (h := ?_)
          case h5e => (go_simp)
          rintro e we ⟨rfl, hbk, hfe⟩
          have hSe : Fr Nob wc we := hS.trans hfe
          have hcvb := conv_in (bytesIn_of hbk) 480
          rw [byB_length] at hcvb
          have HCvB : Hid ((convert 40 9 (.slice (some ⟨wc.heap.size, 0, none⟩) 480 480)).run Tryz.prog we = .ok (.string B9') we) := by rw [Hid, ← HB9'.out]; exact hcvb
          clear hbk hfe hcvb
          refine ⟨_, ?a5e, rfl, ?b5e, (fun _ => hSe), ?_⟩
          case b5e => (simp only [Act.put, List.setIfInBounds_toArray, List.set_cons_zero, List.set_cons_succ]; rfl)
          refine Rg.seq 6 (some 197) hSe (v := (.string B9')) (a' := ?a6e) (hrun := ?h6e) (ha := ?b6e) (h := ?_)
          case h6e => (have hcv := HCvB.out; go_simp; try with_reducible rfl)
          case b6e => (simp only [Act.put, List.setIfInBounds_toArray, List.set_cons_zero, List.set_cons_succ]; rfl)
          refine Rg.op 7 (some 198) hSe (v := (.bool true)) (a' := ?a7e) (hy := fun wz hwz => ?h7e) (ha := ?b7e) (h := ?_)
          case h7e => (go_simp; try with_reducible rfl)
          case b7e => (simp only [Act.put, List.setIfInBounds_toArray, List.set_cons_zero, List.set_cons_succ]; rfl)
          refine Rg.op 8 (some 199) hSe (v := ?v8e) (a' := ?a8e) (hy := fun wz hwz => ?h8e) (ha := ?b8e) (h := ?_)
          case h8e => (go_simp; try with_reducible rfl)
          case b8e => (simp only [Act.put, List.setIfInBounds_toArray, List.set_cons_zero, List.set_cons_succ]; rfl)
          refine Rg.op 9 (some 200) hSe (v := ?v9e) (a' := ?a9e) (hy := fun wz hwz => ?h9e) (ha := ?b9e) (h := ?_)
          case h9e => (go_simp; try with_reducible rfl)
          case b9e => (simp only [Act.put, List.setIfInBounds_toArray, List.set_cons_zero, List.set_cons_succ]; rfl)
          refine Rg.call 10 (some 201) (hrun := ?h10e) (hcall := HNd.out _) (h := ?_)
          case h10e => (go_simp)
          rintro e wf ⟨rfl, rfl⟩
          refine ⟨_, ?a10e, rfl, ?b10e, (fun _ => hSe), ?_⟩
          case b10e => (simp only [Act.put, List.setIfInBounds_toArray, List.set_cons_zero, List.set_cons_succ]; rfl)
          refine Rg.op 11 (some 202) hSe (v := (.bool true)) (a' := ?a11e) (hy := fun wz hwz => ?h11e) (ha := ?b11e) (h := ?_)
          case h11e => (go_simp; try with_reducible rfl)
          case b11e => (simp only [Act.put, List.setIfInBounds_toArray, List.set_cons_zero, List.set_cons_succ]; rfl)
          refine Rg.op 12 (some 203) hSe (v := ?v12e) (a' := ?a12e) (hy := fun wz hwz => ?h12e) (ha := ?b12e) (h := ?_)
          case h12e => (go_simp; try with_reducible rfl)
          case b12e => (simp only [Act.put, List.setIfInBounds_toArray, List.set_cons_zero, List.set_cons_succ]; rfl)
          refine Rg.op 13 (some 204) hSe (v := ?v13e) (a' := ?a13e) (hy := fun wz hwz => ?h13e) (ha := ?b13e) (h := ?_)
          case h13e => (go_simp; try with_reducible rfl)
          case b13e => (simp only [Act.put, List.setIfInBounds_toArray, List.set_cons_zero, List.set_cons_succ]; rfl)
          refine Rg.call 14 (some 205) (hrun := ?h14e) (hcall := HAw.out _) (h := ?_)
          case h14e => (go_simp)
          rintro e wh ⟨rfl, hfh⟩
          have hSh : Fr Nob wc wh := hSe.trans hfh
          clear hfh
          refine ⟨_, ?a14e, rfl, ?b14e, (fun _ => hSh), ?_⟩
          case b14e => (simp only [Act.put, List.setIfInBounds_toArray, List.set_cons_zero, List.set_cons_succ]; rfl)
          refine Rg.op 15 (some 206) hSh (v := ?v15e) (a' := ?a15e) (hy := fun wz hwz => ?h15e) (ha := ?b15e) (h := ?_)
          case h15e => (go_simp; try with_reducible rfl)
          case b15e => (simp only [Act.put, List.setIfInBounds_toArray, List.set_cons_zero, List.set_cons_succ]; rfl)
          refine Rg.op 16 (some 4) hSh (v := ?v16e) (a' := ?a16e) (hy := fun wz hwz => ?h16e) (ha := ?b16e) (h := ?_)
          case h16e => (go_simp; try with_reducible rfl)
          case b16e => (simp only [Act.put, List.setIfInBounds_toArray, List.set_cons_zero, List.set_cons_succ]; rfl)
          refine Rg.done _ (h := ?_)
          go_wp2
          go_ret
          exact ⟨rfl, HWC.out.fr.trans hSh⟩
        | true =>
          by_cases hk0 : k = 0
          · have hol : ovL k = 0 := if_pos hk0
            have holI : ((ovL k : Nat) : Int) = 0 := by rw [hol]; rfl
            rw [holI]
            have hend : ∃ RS RO U T C svs n last un q M K, TW w w2 RS RO U g s M K T (4096 : Nat) 1 (.slice (some ⟨gn, 0, none⟩) 6 cn) lv (ovPg xs k) ∧ TB T d 4096 C (ovPg xs 0) svs n last un q ∧ 0 ≤ q ∧ n ≤ 20 ∧ M ≤ 1000 ∧ K ≤ 1000 := ⟨_, _, _, _, _, _, _, _, _, _, _, _, HW2.out, HB1.out, by omega, by omega, by omega, by omega⟩
            have HEnd := Lib.hid hend
            clear hend
            clear hk0 hol holI
            obtain ⟨RSa, ROa, Ua, Ta, Ca, sva, na, la, una, qa, Ma, Ka, hwA, hbA, hqa, hna, hMa, hKa⟩ := HEnd.out
            have aA := hwA.cs
            have zA := hwA.lt
            have HAb := Lib.hid (Abort_tb hwA.tx hbA hqa (by omega) (by omega))
            have HWA := Lib.hid hwA
            have HDA := Lib.hid hbA.d
            clear hwA hbA hqa
            go_wp2_with fail
            refine HAb.out.mono ?_
            rintro e wb ⟨rfl, RSb, Ub, Tb, hB, hbB, hsB⟩
            have hwB := HWA.out.step hB hsB (hbB.d.trans HDA.out.symm)
            have HRd := Lib.hid (Read_tx hwB.tx 3 (by omega) (by omega))
            have hv3 : (Tb.V 3).d = byB 9 480 := by rw [congrFun hbB.pages 3]; exact HOv3.out
            have HV3 := Lib.hid hv3
            have aB := hwB.cs
            have zB := hwB.lt
            have HWB := Lib.hid hwB
            clear hB hbB hsB hwB hv3 HAb HWA HDA aA zA
            go_wp2_with fail
            refine HRd.out.mono ?_
            rintro e wc ⟨gr, rfl, hcr, hgr, Uc, hC, hgU, hsC⟩
            have hwC := HWB.out.step hC hsC rfl
            rw [HV3.out] at hcr
            have HCvA : Hid (∀ W, Fr Nob wc W → (convert 40 9 (.slice (some ⟨gr, 0, none⟩) 480 480)).run Tryz.prog W = .ok (.string B9') W) := fun W hW => by
              have := conv_in (hcr.bytes.new hW) 480
              rw [byB_length] at this
              rw [← HB9'.out]
              exact this
            have HWC := Lib.hid hwC
            clear hC hsC hwC hcr hgU HRd HWB aB zB
            go_wp2_with fail
            have hS : Fr Nob wc wc.drew := (Fr.refl _ wc).drew
            refine Rg.begin (Fr Nob wc) [] (by kernel_rfl) ?_
            refine Rg.op 0 (some 191) hS (v := ?v0f) (a' := ?a0f) (hy := fun wz hwz => ?h0f) (ha := ?b0f) (h := ?_)
            case h0f => (go_simp; try with_reducible rfl)
            case b0f => (simp only [Act.put, List.setIfInBounds_toArray, List.set_cons_zero, List.set_cons_succ]; rfl)
            refine Rg.op 1 (some 192) hS (v := ?v1f) (a' := ?a1f) (hy := fun wz hwz => ?h1f) (ha := ?b1f) (h := ?_)
            case h1f => (go_simp; try with_reducible rfl)
            case b1f => (simp only [Act.put, List.setIfInBounds_toArray, List.set_cons_zero, List.set_cons_succ]; rfl)
            refine Rg.op 2 (some 193) hS (v := ?v2f) (a' := ?a2f) (hy := fun wz hwz => ?h2f) (ha := ?b2f) (h := ?_)
            case h2f => (go_simp; try with_reducible rfl)
            case b2f => (simp only [Act.put, List.setIfInBounds_toArray, List.set_cons_zero, List.set_cons_succ]; rfl)
            refine Rg.op 3 (some 194) hS (v := ?v3f) (a' := ?a3f) (hy := fun wz hwz => ?h3f) (ha := ?b3f) (h := ?_)
            case h3f => (go_simp; try with_reducible rfl)
            case b3f => (simp only [Act.put, List.setIfInBounds_toArray, List.set_cons_zero, List.set_cons_succ]; rfl)
            refine Rg.op 4 (some 195) hS (v := (.string B9')) (a' := ?a4f) (hy := fun wz hwz => ?h4f) (ha := ?b4f) (h := ?_)
            case h4f => (have hcv := HCvA.out wz hwz; go_simp; try with_reducible rfl)
            case b4f => (simp only [Act.put, List.setIfInBounds_toArray, List.set_cons_zero, List.set_cons_succ]; rfl)
            refine Rg.call 5 (some 196) (hrun := ?h5f) (hcall := HBy9.out _) (h := ?_)
            case h5f => (go_simp)
            rintro e we ⟨rfl, hbk, hfe⟩
            have hSe : Fr Nob wc we := hS.trans hfe
            have hcvb := conv_in (bytesIn_of hbk) 480
            rw [byB_length] at hcvb
            have HCvB : Hid ((convert 40 9 (.slice (some ⟨wc.heap.size, 0, none⟩) 480 480)).run Tryz.prog we = .ok (.string B9') we) := by rw [Hid, ← HB9'.out]; exact hcvb
            clear hbk hfe hcvb
            refine ⟨_, ?a5f, rfl, ?b5f, (fun _ => hSe), ?_⟩
            case b5f => (simp only [Act.put, List.setIfInBounds_toArray, List.set_cons_zero, List.set_cons_succ]; rfl)
            refine Rg.seq 6 (some 197) hSe (v := (.string B9')) (a' := ?a6f) (hrun := ?h6f) (ha := ?b6f) (h := ?_)
            case h6f => (have hcv := HCvB.out; go_simp; try with_reducible rfl)
            case b6f => (simp only [Act.put, List.setIfInBounds_toArray, List.set_cons_zero, List.set_cons_succ]; rfl)
            refine Rg.op 7 (some 198) hSe (v := (.bool true)) (a' := ?a7f) (hy := fun wz hwz => ?h7f) (ha := ?b7f) (h := ?_)
            case h7f => (go_simp; try with_reducible rfl)
            case b7f => (simp only [Act.put, List.setIfInBounds_toArray, List.set_cons_zero, List.set_cons_succ]; rfl)
            refine Rg.op 8 (some 199) hSe (v := ?v8f) (a' := ?a8f) (hy := fun wz hwz => ?h8f) (ha := ?b8f) (h := ?_)
            case h8f => (go_simp; try with_reducible rfl)
            case b8f => (simp only [Act.put, List.setIfInBounds_toArray, List.set_cons_zero, List.set_cons_succ]; rfl)
            refine Rg.op 9 (some 200) hSe (v := ?v9f) (a' := ?a9f) (hy := fun wz hwz => ?h9f) (ha := ?b9f) (h := ?_)
            case h9f => (go_simp; try with_reducible rfl)
            case b9f => (simp only [Act.put, List.setIfInBounds_toArray, List.set_cons_zero, List.set_cons_succ]; rfl)
            refine Rg.call 10 (some 201) (hrun := ?h10f) (hcall := HNd.out _) (h := ?_)
            case h10f => (go_simp)
            rintro e wf ⟨rfl, rfl⟩
            refine ⟨_, ?a10f, rfl, ?b10f, (fun _ => hSe), ?_⟩
            case b10f => (simp only [Act.put, List.setIfInBounds_toArray, List.set_cons_zero, List.set_cons_succ]; rfl)
            refine Rg.op 11 (some 202) hSe (v := (.bool true)) (a' := ?a11f) (hy := fun wz hwz => ?h11f) (ha := ?b11f) (h := ?_)
            case h11f => (go_simp; try with_reducible rfl)
            case b11f => (simp only [Act.put, List.setIfInBounds_toArray, List.set_cons_zero, List.set_cons_succ]; rfl)
            refine Rg.op 12 (some 203) hSe (v := ?v12f) (a' := ?a12f) (hy := fun wz hwz => ?h12f) (ha := ?b12f) (h := ?_)
            case h12f => (go_simp; try with_reducible rfl)
            case b12f => (simp only [Act.put, List.setIfInBounds_toArray, List.set_cons_zero, List.set_cons_succ]; rfl)
            refine Rg.op 13 (some 204) hSe (v := ?v13f) (a' := ?a13f) (hy := fun wz hwz => ?h13f) (ha := ?b13f) (h := ?_)
            case h13f => (go_simp; try with_reducible rfl)
            case b13f => (simp only [Act.put, List.setIfInBounds_toArray, List.set_cons_zero, List.set_cons_succ]; rfl)
            refine Rg.call 14 (some 205) (hrun := ?h14f) (hcall := HAw.out _) (h := ?_)
            case h14f => (go_simp)
            rintro e wh ⟨rfl, hfh⟩
            have hSh : Fr Nob wc wh := hSe.trans hfh
            clear hfh
            refine ⟨_, ?a14f, rfl, ?b14f, (fun _ => hSh), ?_⟩
            case b14f => (simp only [Act.put, List.setIfInBounds_toArray, List.set_cons_zero, List.set_cons_succ]; rfl)
            refine Rg.op 15 (some 206) hSh (v := ?v15f) (a' := ?a15f) (hy := fun wz hwz => ?h15f) (ha := ?b15f) (h := ?_)
            case h15f => (go_simp; try with_reducible rfl)
            case b15f => (simp only [Act.put, List.setIfInBounds_toArray, List.set_cons_zero, List.set_cons_succ]; rfl)
            refine Rg.op 16 (some 4) hSh (v := ?v16f) (a' := ?a16f) (hy := fun wz hwz => ?h16f) (ha := ?b16f) (h := ?_)
            case h16f => (go_simp; try with_reducible rfl)
            case b16f => (simp only [Act.put, List.setIfInBounds_toArray, List.set_cons_zero, List.set_cons_succ]; rfl)
            refine Rg.done _ (h := ?_)
            go_wp2
            go_ret
            exact ⟨rfl, HWC.out.fr.trans hSh⟩
          · have hol : ovL k = 1 := if_neg hk0
            have holI : ((ovL k : Nat) : Int) = 1 := by rw [hol]; rfl
            rw [holI]
            have hosv : ovSv xs k = [(1, 1, ovPg xs 1)] := if_neg hk0
            have hb1 := HB1.out
            rw [hosv] at hb1
            have HBk := Lib.hid (BackS_tb HW2.out.tx hb1 1 (by omega) (by omega) (by omega))
            have a2 := HW2.out.cs
            have z2 := HW2.out.lt
            have hkr2 := HKr1.out
            rw [hol] at hkr2
            have HKr2 := Lib.hid hkr2
            have HD1 := Lib.hid HB1.out.d
            clear hk0 hol holI hosv hb1 hkr2
            go_wp2_with fail
            refine HBk.out.mono ?_
            rintro e w3 (⟨i3, at3, W3, RS3, U3, T3, hi3, _, rfl, h3, hb3, hs3⟩ | ⟨hno, _, _⟩)
            case inr => exact absurd rfl (hno (1, 1, ovPg xs 1) (by simp))
            have hi30 : i3 = 0 := by
              have := (List.getElem?_eq_some_iff.1 hi3).1
              simp at this; exact this
            subst hi30
            simp only [List.getElem?_cons_zero, Option.some.injEq, Prod.mk.injEq] at hi3
            obtain ⟨_, rfl, rfl⟩ := hi3
            have hw3 := HW2.out.step h3 hs3 (hb3.d.trans HD1.out.symm)
            have hSu3 := HSu2.out.trans hs3
            have hst := Stands_tx h3 gf cf (fun i hi => by rw [congrFun hb3.pages i, (hSu3.fr3.cell (p := ⟨gf, i, none⟩) hgf hngf).trans (Row6.at_ HKr2.out.1 i hi)]) (fun e => hSu3.keep hngf hgf (.inl e)) (fun e => hSu3.keep hngf hgf (.inr (.inr e))) (by omega)
            have HSt := Lib.hid hst
            have HW3 := Lib.hid hw3
            have HB3 := Lib.hid hb3
            have a3 := hw3.cs
            have z3 := hw3.lt
            clear h3 hb3 hs3 hw3 hSu3 hst HBk a2 z2
            go_wp2_with fail
            refine HSt.out.mono ?_
            rintro e w4 ⟨rfl, U4', h4, hs4⟩
            have hw4 := HW3.out.step h4 hs4 rfl
            have HW4 := Lib.hid hw4
            clear h4 hs4 hw4 HSt a3 z3
            have hend : ∃ RS RO U T C svs n last un q M K, TW w w4 RS RO U g s M K T (4096 : Nat) 1 (.slice (some ⟨gn, 0, none⟩) 6 cn) lv (ovPg xs k) ∧ TB T d 4096 C (ovPg xs 0) svs n last un q ∧ 0 ≤ q ∧ n ≤ 20 ∧ M ≤ 1000 ∧ K ≤ 1000 := ⟨_, _, _, _, _, _, _, _, _, _, _, _, HW4.out, HB3.out, by omega, by omega, by omega, by omega⟩
            have HEnd := Lib.hid hend
            clear hend
            obtain ⟨RSa, ROa, Ua, Ta, Ca, sva, na, la, una, qa, Ma, Ka, hwA, hbA, hqa, hna, hMa, hKa⟩ := HEnd.out
            have aA := hwA.cs
            have zA := hwA.lt
            have HAb := Lib.hid (Abort_tb hwA.tx hbA hqa (by omega) (by omega))
            have HWA := Lib.hid hwA
            have HDA := Lib.hid hbA.d
            clear hwA hbA hqa
            go_wp2_with fail
            refine HAb.out.mono ?_
            rintro e wb ⟨rfl, RSb, Ub, Tb, hB, hbB, hsB⟩
            have hwB := HWA.out.step hB hsB (hbB.d.trans HDA.out.symm)
            have HRd := Lib.hid (Read_tx hwB.tx 3 (by omega) (by omega))
            have hv3 : (Tb.V 3).d = byB 9 480 := by rw [congrFun hbB.pages 3]; exact HOv3.out
            have HV3 := Lib.hid hv3
            have aB := hwB.cs
            have zB := hwB.lt
            have HWB := Lib.hid hwB
            clear hB hbB hsB hwB hv3 HAb HWA HDA aA zA
            go_wp2_with fail
            refine HRd.out.mono ?_
            rintro e wc ⟨gr, rfl, hcr, hgr, Uc, hC, hgU, hsC⟩
            have hwC := HWB.out.step hC hsC rfl
            rw [HV3.out] at hcr
            have HCvA : Hid (∀ W, Fr Nob wc W → (convert 40 9 (.slice (some ⟨gr, 0, none⟩) 480 480)).run Tryz.prog W = .ok (.string B9') W) := fun W hW => by
              have := conv_in (hcr.bytes.new hW) 480
              rw [byB_length] at this
              rw [← HB9'.out]
              exact this
            have HWC := Lib.hid hwC
            clear hC hsC hwC hcr hgU HRd HWB aB zB
            go_wp2_with fail
            have hS : Fr Nob wc wc.drew := (Fr.refl _ wc).drew
            refine Rg.begin (Fr Nob wc) [] (by kernel_rfl) ?_
            refine Rg.op 0 (some 191) hS (v := ?v0h) (a' := ?a0h) (hy := fun wz hwz => ?h0h) (ha := ?b0h) (h := ?_)
            case h0h => (go_simp; try with_reducible rfl)
            case b0h => (simp only [Act.put, List.setIfInBounds_toArray, List.set_cons_zero, List.set_cons_succ]; rfl)
            refine Rg.op 1 (some 192) hS (v := ?v1h) (a' := ?a1h) (hy := fun wz hwz => ?h1h) (ha := ?b1h) (h := ?_)
            case h1h => (go_simp; try with_reducible rfl)
            case b1h => (simp only [Act.put, List.setIfInBounds_toArray, List.set_cons_zero, List.set_cons_succ]; rfl)
            refine Rg.op 2 (some 193) hS (v := ?v2h) (a' := ?a2h) (hy := fun wz hwz => ?h2h) (ha := ?b2h) (h := ?_)
            case h2h => (go_simp; try with_reducible rfl)
            case b2h => (simp only [Act.put, List.setIfInBounds_toArray, List.set_cons_zero, List.set_cons_succ]; rfl)
            refine Rg.op 3 (some 194) hS (v := ?v3h) (a' := ?a3h) (hy := fun wz hwz => ?h3h) (ha := ?b3h) (h := ?_)
            case h3h => (go_simp; try with_reducible rfl)
            case b3h => (simp only [Act.put, List.setIfInBounds_toArray, List.set_cons_zero, List.set_cons_succ]; rfl)
            refine Rg.op 4 (some 195) hS (v := (.string B9')) (a' := ?a4h) (hy := fun wz hwz => ?h4h) (ha := ?b4h) (h := ?_)
            case h4h => (have hcv := HCvA.out wz hwz; go_simp; try with_reducible rfl)
            case b4h => (simp only [Act.put, List.setIfInBounds_toArray, List.set_cons_zero, List.set_cons_succ]; rfl)
            refine Rg.call 5 (some 196) (hrun := ?h5h) (hcall := HBy9.out _) (h := ?_)
            case h5h => (go_simp)
            rintro e we ⟨rfl, hbk, hfe⟩
            have hSe : Fr Nob wc we := hS.trans hfe
            have hcvb := conv_in (bytesIn_of hbk) 480
            rw [byB_length] at hcvb
            have HCvB : Hid ((convert 40 9 (.slice (some ⟨wc.heap.size, 0, none⟩) 480 480)).run Tryz.prog we = .ok (.string B9') we) := by rw [Hid, ← HB9'.out]; exact hcvb
            clear hbk hfe hcvb
            refine ⟨_, ?a5h, rfl, ?b5h, (fun _ => hSe), ?_⟩
            case b5h => (simp only [Act.put, List.setIfInBounds_toArray, List.set_cons_zero, List.set_cons_succ]; rfl)
            refine Rg.seq 6 (some 197) hSe (v := (.string B9')) (a' := ?a6h) (hrun := ?h6h) (ha := ?b6h) (h := ?_)
            case h6h => (have hcv := HCvB.out; go_simp; try with_reducible rfl)
            case b6h => (simp only [Act.put, List.setIfInBounds_toArray, List.set_cons_zero, List.set_cons_succ]; rfl)
            refine Rg.op 7 (some 198) hSe (v := (.bool true)) (a' := ?a7h) (hy := fun wz hwz => ?h7h) (ha := ?b7h) (h := ?_)
            case h7h => (go_simp; try with_reducible rfl)
            case b7h => (simp only [Act.put, List.setIfInBounds_toArray, List.set_cons_zero, List.set_cons_succ]; rfl)
            refine Rg.op 8 (some 199) hSe (v := ?v8h) (a' := ?a8h) (hy := fun wz hwz => ?h8h) (ha := ?b8h) (h := ?_)
            case h8h => (go_simp; try with_reducible rfl)
            case b8h => (simp only [Act.put, List.setIfInBounds_toArray, List.set_cons_zero, List.set_cons_succ]; rfl)
            refine Rg.op 9 (some 200) hSe (v := ?v9h) (a' := ?a9h) (hy := fun wz hwz => ?h9h) (ha := ?b9h) (h := ?_)
            case h9h => (go_simp; try with_reducible rfl)
            case b9h => (simp only [Act.put, List.setIfInBounds_toArray, List.set_cons_zero, List.set_cons_succ]; rfl)
            refine Rg.call 10 (some 201) (hrun := ?h10h) (hcall := HNd.out _) (h := ?_)
            case h10h => (go_simp)
            rintro e wf ⟨rfl, rfl⟩
            refine ⟨_, ?a10h, rfl, ?b10h, (fun _ => hSe), ?_⟩
            case b10h => (simp only [Act.put, List.setIfInBounds_toArray, List.set_cons_zero, List.set_cons_succ]; rfl)
            refine Rg.op 11 (some 202) hSe (v := (.bool true)) (a' := ?a11h) (hy := fun wz hwz => ?h11h) (ha := ?b11h) (h := ?_)
            case h11h => (go_simp; try with_reducible rfl)
            case b11h => (simp only [Act.put, List.setIfInBounds_toArray, List.set_cons_zero, List.set_cons_succ]; rfl)
            refine Rg.op 12 (some 203) hSe (v := ?v12h) (a' := ?a12h) (hy := fun wz hwz => ?h12h) (ha := ?b12h) (h := ?_)
            case h12h => (go_simp; try with_reducible rfl)
            case b12h => (simp only [Act.put, List.setIfInBounds_toArray, List.set_cons_zero, List.set_cons_succ]; rfl)
            refine Rg.op 13 (some 204) hSe (v := ?v13h) (a' := ?a13h) (hy := fun wz hwz => ?h13h) (ha := ?b13h) (h := ?_)
            case h13h => (go_simp; try with_reducible rfl)
            case b13h => (simp only [Act.put, List.setIfInBounds_toArray, List.set_cons_zero, List.set_cons_succ]; rfl)
            refine Rg.call 14 (some 205) (hrun := ?h14h) (hcall := HAw.out _) (h := ?_)
            case h14h => (go_simp)
            rintro e wh ⟨rfl, hfh⟩
            have hSh : Fr Nob wc wh := hSe.trans hfh
            clear hfh
            refine ⟨_, ?a14h, rfl, ?b14h, (fun _ => hSh), ?_⟩
            case b14h => (simp only [Act.put, List.setIfInBounds_toArray, List.set_cons_zero, List.set_cons_succ]; rfl)
            refine Rg.op 15 (some 206) hSh (v := ?v15h) (a' := ?a15h) (hy := fun wz hwz => ?h15h) (ha := ?b15h) (h := ?_)
            case h15h => (go_simp; try with_reducible rfl)
            case b15h => (simp only [Act.put, List.setIfInBounds_toArray, List.set_cons_zero, List.set_cons_succ]; rfl)
            refine Rg.op 16 (some 4) hSh (v := ?v16h) (a' := ?a16h) (hy := fun wz hwz => ?h16h) (ha := ?b16h) (h := ?_)
            case h16h => (go_simp; try with_reducible rfl)
            case b16h => (simp only [Act.put, List.setIfInBounds_toArray, List.set_cons_zero, List.set_cons_succ]; rfl)
            refine Rg.done _ (h := ?_)
            go_wp2
            go_ret
            exact ⟨rfl, HWC.out.fr.trans hSh⟩
end Go.Proofs.YtfapklpcgcgahaaGreatDoor
