/-
  PoolAwake, RegFork, PoolFrames, in one text.
-/
import Derived.Test.YtccmmnacejdeoaaGreatDoorMg35
import Derived.Test.YtccmmnacejdeoaaGreatDoorMg32
import Derived.Lib.SlBytesConst
import Derived.Test.YtccmmnacejdeoaaGreatDoorMg08
import Derived.Test.YtccmmnacejdeoaaGreatDoorMg05
import Derived.Deep.DeepCutAuto
/-
  awake of the statements on pools.
-/
namespace Go.Proofs.YtccmmnacejdeoaaGreatDoor
set_option linter.unusedSimpArgs false
set_option linter.unusedVariables false
open Go.RowKit Go.Maps

theorem len_ints5 (w : World) (A : Option Addr) (n c : Nat) : (Builtin.len_ #[55] 3 #[Value.slice A n c]).run Tryz.prog w = .ok (.int .i64 n) w := by go_simp
set_option maxHeartbeats 6400000 in
set_option maxRecDepth 100000 in
theorem awake5_any (w : World) : Calls Tryz.prog 11 #[] w fun e w' => e = .returned (.bool true) ∧ Fr Nob w w' := by
  have qL := len_ints5
  have kc := fun (w : World) (C : Array Value) (n c : Nat) => Lib.run_convert_bytes_const (P := Tryz.prog) w 38 5 C n c Tryz.underlying38 Tryz.underlying5
  have HMd : Hid (∀ W, Calls Tryz.prog 6 #[.int .i64 2] W fun e w' => ∃ g d f l p U, e = .returned (.pointer (some ⟨g, 0, none⟩)) ∧ PW W w' U g d f l p 2 V0 (LS.empty 144 80) 0 0 (fun _ => False)) := fun W => made5_pw 2 W (by omega) (by omega)
  have HDt : Hid (∀ W, Calls Tryz.prog 13 #[.int .i64 9] W fun e w' => e = .returned (.slice (some ⟨W.heap.size, 0, none⟩) 480 480) ∧ Blk w' W.heap.size 5 (bts (dataB 9)).toArray ∧ Fr Nob W w') := fun W => Data_any 9 W (by omega)
  have hd9 : (dataB 9).length = 480 := dataB_length 9
  go_enter Tryz.func11, Tryz.ntmps11
  go_wp2_with fail
  refine (HMd.out w).mono ?_
  rintro e w1 ⟨g, d, f, l, p, U1, rfl, hp1⟩
  have HP1 := Lib.hid hp1
  have c1 := hp1.wld.cl
  have gz := hp1.lt
  clear hp1
  go_wp2_with fail
  have hfa : Fr Nob w1 (w1.alloc (.cells #[.int .u8 120] 5 (1, 2))) := (Fr.refl _ w1).alloc _
  have hbi : BytesIn (w1.alloc (.cells #[.int .u8 120] 5 (1, 2))) (some ⟨w1.heap.size, 0, none⟩) [120] := bytesIn_lit w1 [120] (1, 2)
  have hpa := HP1.out.new hfa
  have hap := hpa.ok.append ⟨w1.heap.size, 0, none⟩ 1 [120] hbi (by simp) (by decide) (by decide) (by omega)
  rw [show ([120] : List UInt8).length = 1 from rfl, show (LS.empty 144 80).next = 1 from rfl] at hap
  have HAp := Lib.hid hap
  have HPa := Lib.hid hpa
  clear hap hbi hpa hfa c1
  refine HAp.out.mono ?_
  rintro e w2 ⟨rfl, U2, hok2, hs2, hf2⟩
  have hp2 := HPa.out.step hok2 hs2 hf2
  have HP2 := Lib.hid hp2
  have c2 := hp2.wld.cp
  have gz2 := hp2.lt
  have hn2 : ((LS.empty 144 80).add [120]).next = 2 := rfl
  obtain ⟨L2, hL2⟩ : ∃ L, (LS.empty 144 80).add [120] = L := ⟨_, rfl⟩
  rw [hL2] at HP2 hn2
  have HN2 := Lib.hid hn2
  clear hp2 hok2 hs2 hf2 HAp HPa hL2 hn2 gz
  go_wp2
  have hS : Fr Nob w2 w2.drew := (Fr.refl _ w2).drew
  refine Rg.begin (Fr Nob w2) [7, 8] (by kernel_rfl) ?_
  refine Rg.op 0 (some 21) hS (v := ?v0a) (a' := ?a0a) (hy := fun wz hwz => ?h0a) (ha := ?b0a) (h := ?_)
  case h0a => (go_simp; try with_reducible rfl)
  case b0a => (simp only [Act.put, List.setIfInBounds_toArray, List.set_cons_zero, List.set_cons_succ]; rfl)
  refine Rg.op 1 (some 22) hS (v := ?v1a) (a' := ?a1a) (hy := fun wz hwz => ?h1a) (ha := ?b1a) (h := ?_)
  case h1a => (have hpp := Nat.lt_of_lt_of_le gz2 hwz.size; go_simp; try with_reducible rfl)
  case b1a => (simp only [Act.put, List.setIfInBounds_toArray, List.set_cons_zero, List.set_cons_succ]; rfl)
  refine Rg.op 2 (some 23) hS (v := ?v2a) (a' := ?a2a) (hy := fun wz hwz => ?h2a) (ha := ?b2a) (h := ?_)
  case h2a => (have hpp := Nat.lt_of_lt_of_le gz2 hwz.size; go_simp; try with_reducible rfl)
  case b2a => (simp only [Act.put, List.setIfInBounds_toArray, List.set_cons_zero, List.set_cons_succ]; rfl)
  refine Rg.op 3 (some 24) hS (v := (.pointer (some ⟨p, 0, none⟩))) (a' := ?a3a) (hy := fun wz hwz => ?h3a) (ha := ?b3a) (h := ?_)
  case h3a => (have cx := (hwz.cell (p := ⟨g, 3, none⟩) gz2 (fun h => h)).trans c2; have hpp := Nat.lt_of_lt_of_le gz2 hwz.size; go_simp; try with_reducible rfl)
  case b3a => (simp only [Act.put, List.setIfInBounds_toArray, List.set_cons_zero, List.set_cons_succ]; rfl)
  refine Rg.op 4 (some 25) hS (v := ?v4a) (a' := ?a4a) (hy := fun wz hwz => ?h4a) (ha := ?b4a) (h := ?_)
  case h4a => (go_simp; try with_reducible rfl)
  case b4a => (simp only [Act.put, List.setIfInBounds_toArray, List.set_cons_zero, List.set_cons_succ]; rfl)
  refine Rg.call 5 (some 26) (hrun := ?h5a) (hcall := HDt.out _) (h := ?_)
  case h5a => (go_simp)
  rintro e wd ⟨rfl, hbd, hfd⟩
  have hSd : Fr Nob w2 wd := hS.trans hfd
  clear hfd
  obtain ⟨gd, hgd⟩ : ∃ s, w2.drew.heap.size = s := ⟨_, rfl⟩
  rw [hgd] at hbd ⊢
  have hgl : w2.heap.size ≤ gd := by rw [← hgd]; simp
  have HBd := Lib.hid hbd
  clear hgd hbd
  refine ⟨_, ?a5a, rfl, ?b5a, (fun _ => hSd), ?_⟩
  case b5a => (simp only [Act.put, List.setIfInBounds_toArray, List.set_cons_zero, List.set_cons_succ]; rfl)
  refine Rg.op 6 (some 27) hSd (v := ?v6a) (a' := ?a6a) (hy := fun wz hwz => ?h6a) (ha := ?b6a) (h := ?_)
  case h6a => (go_simp; try with_reducible rfl)
  case b6a => (simp only [Act.put, List.setIfInBounds_toArray, List.set_cons_zero, List.set_cons_succ]; rfl)
  have hpb := HP2.out.new hSd
  have hput := hpb.ok.put ⟨3, 1, dataB 9⟩ gd 0 480 ⟨bytesIn_of HBd.out, by show (dataB 9).length ≤ 480; omega, fun a ha => by injection ha with ha; subst ha; exact HBd.out.lt⟩ ⟨by show 3 < 100000; omega, by show 1 < 18446744073709551616; omega, hd9⟩ (by show 3 < 8; omega) (by show 1 < L2.next; rw [HN2.out]; omega) (fun e => by have := HP2.out.lo _ e; omega) (by omega)
  have HPut := Lib.hid hput
  have HPb := Lib.hid hpb
  clear hput hpb
  refine Rg.call 7 (some 28) (hrun := ?h7a) (hcall := HPut.out) (h := ?_)
  case h7a => (go_simp)
  rintro e w3 ⟨rfl, U3, hok3, hs3, hf3⟩
  refine ⟨_, ?a7a, rfl, ?b7a, (fun h => absurd (by decide) h), ?_⟩
  case b7a => (simp only [Act.put, List.setIfInBounds_toArray, List.set_cons_zero, List.set_cons_succ]; rfl)
  refine Rg.late 8 (some 4) (v := ?v8a) (a' := ?a8a) (hrun := ?h8a) (ha := ?b8a) (h := ?_)
  case h8a => (go_simp; try with_reducible rfl)
  case b8a => (simp only [Act.put, List.setIfInBounds_toArray, List.set_cons_zero, List.set_cons_succ]; rfl)
  refine Rg.done _ (h := ?_)
  have hp3 := HPb.out.step hok3 hs3 hf3
  have HP3 := Lib.hid hp3
  have c3 := hp3.wld.cp
  have gz3 := hp3.lt
  have HEv := Lib.hid (hp3.ok.evict 3 (by omega) (by omega))
  clear hok3 hs3 hf3 HPb HPut hp3 hS hSd HP2 HP1 c2 gz2 HBd
  go_wp2_with fail
  refine HEv.out.mono ?_
  rintro e w4 ⟨rfl, U4, hok4, hs4, hf4⟩
  have hp4 := (HP3.out.step hok4 hs4 hf4).dmono (Dt' := fun _ => False) (fun k hk => by
    rcases hk.1 with h | h
    · exact h
    · exact hk.2 h)
  obtain ⟨V4, hV4⟩ : ∃ V, (fun no => if no = (⟨3, 1, dataB 9⟩ : PgV).no then (⟨3, 1, dataB 9⟩ : PgV) else V0 no) = V := ⟨_, rfl⟩
  have hV43 : V4 3 = ⟨3, 1, dataB 9⟩ := by rw [← hV4]; rfl
  rw [hV4] at hp4
  have c4 := hp4.wld.cp
  have gz4 := hp4.lt
  have hget := hp4.ok.get 3 (by omega) (by omega)
  rw [hV43] at hget
  have HGet := Lib.hid hget
  have HP4 := Lib.hid hp4
  clear hok4 hs4 hf4 hp4 hV4 hV43 hget HEv HP3 c3 gz3
  go_wp2_with fail
  refine HGet.out.mono ?_
  rintro e w5 ⟨gc, rfl, hc5, hgc, U5, hok5, hug, hs5, hf5⟩
  have hp5 := HP4.out.step hok5 hs5 hf5
  clear hok5 hs5 hf5 hug HGet HP4 c4 gz4
  have hbx : Blk (w5.alloc (.cells #[.int .i64 3, .int .u64 1, .slice (some ⟨gc, 0, none⟩) 480 480] 40)) w5.heap.size 40 #[.int .i64 3, .int .u64 1, .slice (some ⟨gc, 0, none⟩) 480 480] := Blk.new _ _ _
  have hfa : Fr Nob w5 (w5.alloc (.cells #[.int .i64 3, .int .u64 1, .slice (some ⟨gc, 0, none⟩) 480 480] 40)) := (Fr.refl _ w5).alloc _
  have hba : BytesIn (w5.alloc (.cells #[.int .i64 3, .int .u64 1, .slice (some ⟨gc, 0, none⟩) 480 480] 40)) (some ⟨gc, 0, none⟩) (dataB 9) := hc5.bytes.new hfa
  have hpa := hp5.new hfa
  obtain ⟨gb, hgb⟩ : ∃ s, w5.heap.size = s := ⟨_, rfl⟩
  obtain ⟨wa, hwa⟩ : ∃ W, w5.alloc (.cells #[.int .i64 3, .int .u64 1, .slice (some ⟨gc, 0, none⟩) 480 480] 40) = W := ⟨_, rfl⟩
  rw [hwa] at hbx hba hpa
  rw [hgb] at hbx
  have HBx := Lib.hid hbx
  have HBa := Lib.hid hba
  have HPa := Lib.hid hpa
  have c5 := hpa.wld.cp
  have gz5 := hpa.lt
  clear hbx hfa hba hpa hp5 hc5
  go_wp2
  try rw [hwa]
  try rw [hgb]
  clear hwa hgb
  have hS : Fr Nob wa wa.drew := (Fr.refl _ wa).drew
  refine Rg.begin (Fr Nob wa) [] (by kernel_rfl) ?_
  refine Rg.op 0 (some 42) hS (v := ?v0w) (a' := ?a0w) (hy := fun wz hwz => ?h0w) (ha := ?b0w) (h := ?_)
  case h0w => (go_simp; try with_reducible rfl)
  case b0w => (simp only [Act.put, List.setIfInBounds_toArray, List.set_cons_zero, List.set_cons_succ]; rfl)
  refine Rg.op 1 (some 43) hS (v := ?v1w) (a' := ?a1w) (hy := fun wz hwz => ?h1w) (ha := ?b1w) (h := ?_)
  case h1w => (go_simp; try with_reducible rfl)
  case b1w => (simp only [Act.put, List.setIfInBounds_toArray, List.set_cons_zero, List.set_cons_succ]; rfl)
  refine Rg.op 2 (some 44) hS (v := ?v2w) (a' := ?a2w) (hy := fun wz hwz => ?h2w) (ha := ?b2w) (h := ?_)
  case h2w => (go_simp; try with_reducible rfl)
  case b2w => (simp only [Act.put, List.setIfInBounds_toArray, List.set_cons_zero, List.set_cons_succ]; rfl)
  refine Rg.op 3 (some 45) hS (v := ?v3w) (a' := ?a3w) (hy := fun wz hwz => ?h3w) (ha := ?b3w) (h := ?_)
  case h3w => (go_simp; try with_reducible rfl)
  case b3w => (simp only [Act.put, List.setIfInBounds_toArray, List.set_cons_zero, List.set_cons_succ]; rfl)
  refine Rg.op 4 (some 46) hS (v := ?v4w) (a' := ?a4w) (hy := fun wz hwz => ?h4w) (ha := ?b4w) (h := ?_)
  case h4w => (go_simp; try with_reducible rfl)
  case b4w => (simp only [Act.put, List.setIfInBounds_toArray, List.set_cons_zero, List.set_cons_succ]; rfl)
  refine Rg.op 5 (some 47) hS (v := ?v5w) (a' := ?a5w) (hy := fun wz hwz => ?h5w) (ha := ?b5w) (h := ?_)
  case h5w => (go_simp; try with_reducible rfl)
  case b5w => (simp only [Act.put, List.setIfInBounds_toArray, List.set_cons_zero, List.set_cons_succ]; rfl)
  refine Rg.op 6 (some 48) hS (v := ?v6w) (a' := ?a6w) (hy := fun wz hwz => ?h6w) (ha := ?b6w) (h := ?_)
  case h6w => (go_simp; try with_reducible rfl)
  case b6w => (simp only [Act.put, List.setIfInBounds_toArray, List.set_cons_zero, List.set_cons_succ]; rfl)
  refine Rg.op 7 (some 49) hS (v := ?v7w) (a' := ?a7w) (hy := fun wz hwz => ?h7w) (ha := ?b7w) (h := ?_)
  case h7w => (go_simp; try with_reducible rfl)
  case b7w => (simp only [Act.put, List.setIfInBounds_toArray, List.set_cons_zero, List.set_cons_succ]; rfl)
  refine Rg.op 8 (some 50) hS (v := ?v8w) (a' := ?a8w) (hy := fun wz hwz => ?h8w) (ha := ?b8w) (h := ?_)
  case h8w => (go_simp; try with_reducible rfl)
  case b8w => (simp only [Act.put, List.setIfInBounds_toArray, List.set_cons_zero, List.set_cons_succ]; rfl)
  refine Rg.op 9 (some 51) hS (v := ?v9w) (a' := ?a9w) (hy := fun wz hwz => ?h9w) (ha := ?b9w) (h := ?_)
  case h9w => (go_simp; try with_reducible rfl)
  case b9w => (simp only [Act.put, List.setIfInBounds_toArray, List.set_cons_zero, List.set_cons_succ]; rfl)
  refine Rg.op 10 (some 52) hS (v := ?v10w) (a' := ?a10w) (hy := fun wz hwz => ?h10w) (ha := ?b10w) (h := ?_)
  case h10w => (go_simp; try with_reducible rfl)
  case b10w => (simp only [Act.put, List.setIfInBounds_toArray, List.set_cons_zero, List.set_cons_succ]; rfl)
  refine Rg.op 11 (some 53) hS (v := ?v11w) (a' := ?a11w) (hy := fun wz hwz => ?h11w) (ha := ?b11w) (h := ?_)
  case h11w => (go_simp; try with_reducible rfl)
  case b11w => (simp only [Act.put, List.setIfInBounds_toArray, List.set_cons_zero, List.set_cons_succ]; rfl)
  refine Rg.op 12 (some 54) hS (v := ?v12w) (a' := ?a12w) (hy := fun wz hwz => ?h12w) (ha := ?b12w) (h := ?_)
  case h12w => (go_simp; try with_reducible rfl)
  case b12w => (simp only [Act.put, List.setIfInBounds_toArray, List.set_cons_zero, List.set_cons_succ]; rfl)
  refine Rg.op 13 (some 55) hS (v := ?v13w) (a' := ?a13w) (hy := fun wz hwz => ?h13w) (ha := ?b13w) (h := ?_)
  case h13w => (go_simp; try with_reducible rfl)
  case b13w => (simp only [Act.put, List.setIfInBounds_toArray, List.set_cons_zero, List.set_cons_succ]; rfl)
  refine Rg.op 14 (some 56) hS (v := ?v14w) (a' := ?a14w) (hy := fun wz hwz => ?h14w) (ha := ?b14w) (h := ?_)
  case h14w => (go_simp; try with_reducible rfl)
  case b14w => (simp only [Act.put, List.setIfInBounds_toArray, List.set_cons_zero, List.set_cons_succ]; rfl)
  refine Rg.op 15 (some 57) hS (v := ?v15w) (a' := ?a15w) (hy := fun wz hwz => ?h15w) (ha := ?b15w) (h := ?_)
  case h15w => (go_simp; try with_reducible rfl)
  case b15w => (simp only [Act.put, List.setIfInBounds_toArray, List.set_cons_zero, List.set_cons_succ]; rfl)
  refine Rg.op 16 (some 58) hS (v := (.int .i64 3)) (a' := ?a16w) (hy := fun wz hwz => ?h16w) (ha := ?b16w) (h := ?_)
  case h16w => (have hb := HBx.out.fr hwz (fun h => h); have cc1 := Blk.cell hb 0; have hpp := Blk.lt hb; simp only [List.getElem?_toArray, List.getElem?_cons_zero, List.getElem?_cons_succ] at cc1; clear hb; go_simp; try with_reducible rfl)
  case b16w => (simp only [Act.put, List.setIfInBounds_toArray, List.set_cons_zero, List.set_cons_succ]; rfl)
  refine Rg.op 17 (some 59) hS (v := ?v17w) (a' := ?a17w) (hy := fun wz hwz => ?h17w) (ha := ?b17w) (h := ?_)
  case h17w => (go_simp; try with_reducible rfl)
  case b17w => (simp only [Act.put, List.setIfInBounds_toArray, List.set_cons_zero, List.set_cons_succ]; rfl)
  refine Rg.op 18 (some 60) hS (v := ?v18w) (a' := ?a18w) (hy := fun wz hwz => ?h18w) (ha := ?b18w) (h := ?_)
  case h18w => (go_simp; try with_reducible rfl)
  case b18w => (simp only [Act.put, List.setIfInBounds_toArray, List.set_cons_zero, List.set_cons_succ]; rfl)
  refine Rg.op 19 (some 61) hS (v := ?v19w) (a' := ?a19w) (hy := fun wz hwz => ?h19w) (ha := ?b19w) (h := ?_)
  case h19w => (go_simp; try with_reducible rfl)
  case b19w => (simp only [Act.put, List.setIfInBounds_toArray, List.set_cons_zero, List.set_cons_succ]; rfl)
  refine Rg.op 20 (some 62) hS (v := ?v20w) (a' := ?a20w) (hy := fun wz hwz => ?h20w) (ha := ?b20w) (h := ?_)
  case h20w => (go_simp; try with_reducible rfl)
  case b20w => (simp only [Act.put, List.setIfInBounds_toArray, List.set_cons_zero, List.set_cons_succ]; rfl)
  refine Rg.op 21 (some 63) hS (v := (.int .u64 1)) (a' := ?a21w) (hy := fun wz hwz => ?h21w) (ha := ?b21w) (h := ?_)
  case h21w => (have hb := HBx.out.fr hwz (fun h => h); have cc1 := Blk.cell hb 1; have hpp := Blk.lt hb; simp only [List.getElem?_toArray, List.getElem?_cons_zero, List.getElem?_cons_succ] at cc1; clear hb; go_simp; try with_reducible rfl)
  case b21w => (simp only [Act.put, List.setIfInBounds_toArray, List.set_cons_zero, List.set_cons_succ]; rfl)
  refine Rg.op 22 (some 64) hS (v := ?v22w) (a' := ?a22w) (hy := fun wz hwz => ?h22w) (ha := ?b22w) (h := ?_)
  case h22w => (go_simp; try with_reducible rfl)
  case b22w => (simp only [Act.put, List.setIfInBounds_toArray, List.set_cons_zero, List.set_cons_succ]; rfl)
  refine Rg.op 23 (some 65) hS (v := ?v23w) (a' := ?a23w) (hy := fun wz hwz => ?h23w) (ha := ?b23w) (h := ?_)
  case h23w => (go_simp; try with_reducible rfl)
  case b23w => (simp only [Act.put, List.setIfInBounds_toArray, List.set_cons_zero, List.set_cons_succ]; rfl)
  refine Rg.op 24 (some 66) hS (v := ?v24w) (a' := ?a24w) (hy := fun wz hwz => ?h24w) (ha := ?b24w) (h := ?_)
  case h24w => (go_simp; try with_reducible rfl)
  case b24w => (simp only [Act.put, List.setIfInBounds_toArray, List.set_cons_zero, List.set_cons_succ]; rfl)
  refine Rg.op 25 (some 67) hS (v := ?v25w) (a' := ?a25w) (hy := fun wz hwz => ?h25w) (ha := ?b25w) (h := ?_)
  case h25w => (go_simp; try with_reducible rfl)
  case b25w => (simp only [Act.put, List.setIfInBounds_toArray, List.set_cons_zero, List.set_cons_succ]; rfl)
  refine Rg.op 26 (some 68) hS (v := ?v26w) (a' := ?a26w) (hy := fun wz hwz => ?h26w) (ha := ?b26w) (h := ?_)
  case h26w => (go_simp; try with_reducible rfl)
  case b26w => (simp only [Act.put, List.setIfInBounds_toArray, List.set_cons_zero, List.set_cons_succ]; rfl)
  refine Rg.op 27 (some 69) hS (v := (.slice (some ⟨gc, 0, none⟩) 480 480)) (a' := ?a27w) (hy := fun wz hwz => ?h27w) (ha := ?b27w) (h := ?_)
  case h27w => (have hb := HBx.out.fr hwz (fun h => h); have cc1 := Blk.cell hb 2; have hpp := Blk.lt hb; simp only [List.getElem?_toArray, List.getElem?_cons_zero, List.getElem?_cons_succ] at cc1; clear hb; go_simp; try with_reducible rfl)
  case b27w => (simp only [Act.put, List.setIfInBounds_toArray, List.set_cons_zero, List.set_cons_succ]; rfl)
  refine Rg.op 28 (some 70) hS (v := ?v28w) (a' := ?a28w) (hy := fun wz hwz => ?h28w) (ha := ?b28w) (h := ?_)
  case h28w => (have y := conv_in (HBa.out.new hwz) 480; rw [hd9] at y; go_simp; try with_reducible rfl)
  case b28w => (simp only [Act.put, List.setIfInBounds_toArray, List.set_cons_zero, List.set_cons_succ]; rfl)
  refine Rg.call 29 (some 71) (hrun := ?h29w) (hcall := HDt.out _) (h := ?_)
  case h29w => (go_simp)
  rintro e wd ⟨rfl, hbd, hfd⟩
  have hSd : Fr Nob wa wd := hS.trans hfd
  have hbi := conv_in (bytesIn_of hbd) 480
  rw [hd9] at hbi
  clear hfd
  obtain ⟨gd, hgd⟩ : ∃ s, wa.drew.heap.size = s := ⟨_, rfl⟩
  rw [hgd] at hbi hbd ⊢
  clear hgd
  refine ⟨_, ?a29w, rfl, ?b29w, (fun _ => hSd), ?_⟩
  case b29w => (simp only [Act.put, List.setIfInBounds_toArray, List.set_cons_zero, List.set_cons_succ]; rfl)
  refine Rg.seq 30 (some 72) hSd (v := ?v30w) (a' := ?a30w) (hrun := ?h30w) (ha := ?b30w) (h := ?_)
  case h30w => (have y := hbi; go_simp; try with_reducible rfl)
  case b30w => (simp only [Act.put, List.setIfInBounds_toArray, List.set_cons_zero, List.set_cons_succ]; rfl)
  refine Rg.seq 31 (some 73) hSd (v := (.bool true)) (a' := ?a31w) (hrun := ?h31w) (ha := ?b31w) (h := ?_)
  case h31w => (go_simp; try with_reducible rfl)
  case b31w => (simp only [Act.put, List.setIfInBounds_toArray, List.set_cons_zero, List.set_cons_succ]; rfl)
  refine Rg.seq 32 (some 74) hSd (v := ?v32w) (a' := ?a32w) (hrun := ?h32w) (ha := ?b32w) (h := ?_)
  case h32w => (go_simp; try with_reducible rfl)
  case b32w => (simp only [Act.put, List.setIfInBounds_toArray, List.set_cons_zero, List.set_cons_succ]; rfl)
  refine Rg.seq 33 (some 75) hSd (v := ?v33w) (a' := ?a33w) (hrun := ?h33w) (ha := ?b33w) (h := ?_)
  case h33w => (go_simp; try with_reducible rfl)
  case b33w => (simp only [Act.put, List.setIfInBounds_toArray, List.set_cons_zero, List.set_cons_succ]; rfl)
  refine Rg.seq 34 (some 76) hSd (v := ?v34w) (a' := ?a34w) (hrun := ?h34w) (ha := ?b34w) (h := ?_)
  case h34w => (go_simp; try with_reducible rfl)
  case b34w => (simp only [Act.put, List.setIfInBounds_toArray, List.set_cons_zero, List.set_cons_succ]; rfl)
  refine Rg.seq 35 (some 77) hSd (v := ?v35w) (a' := ?a35w) (hrun := ?h35w) (ha := ?b35w) (h := ?_)
  case h35w => (have hwz := hSd; have hpp := Nat.lt_of_lt_of_le gz5 hwz.size; go_simp; try with_reducible rfl)
  case b35w => (simp only [Act.put, List.setIfInBounds_toArray, List.set_cons_zero, List.set_cons_succ]; rfl)
  refine Rg.seq 36 (some 78) hSd (v := ?v36w) (a' := ?a36w) (hrun := ?h36w) (ha := ?b36w) (h := ?_)
  case h36w => (have hwz := hSd; have hpp := Nat.lt_of_lt_of_le gz5 hwz.size; go_simp; try with_reducible rfl)
  case b36w => (simp only [Act.put, List.setIfInBounds_toArray, List.set_cons_zero, List.set_cons_succ]; rfl)
  refine Rg.seq 37 (some 79) hSd (v := (.pointer (some ⟨p, 0, none⟩))) (a' := ?a37w) (hrun := ?h37w) (ha := ?b37w) (h := ?_)
  case h37w => (have hwz := hSd; have cx := (hwz.cell (p := ⟨g, 3, none⟩) gz5 (fun h => h)).trans c5; have hpp := Nat.lt_of_lt_of_le gz5 hwz.size; go_simp; try with_reducible rfl)
  case b37w => (simp only [Act.put, List.setIfInBounds_toArray, List.set_cons_zero, List.set_cons_succ]; rfl)
  have HDy := Lib.hid (HPa.out.new hSd).ok.calmDirty
  refine Rg.call 38 (some 80) (hrun := ?h38w) (hcall := HDy.out) (h := ?_)
  case h38w => (go_simp)
  rintro e wn ⟨A, rfl, hfn⟩
  have hSn : Fr Nob wa wn := hSd.trans hfn
  refine ⟨_, ?a38w, rfl, ?b38w, (fun _ => hSn), ?_⟩
  case b38w => (simp only [Act.put, List.setIfInBounds_toArray, List.set_cons_zero, List.set_cons_succ]; rfl)
  refine Rg.seq 39 (some 81) hSn (v := (.int .i64 0)) (a' := ?a39w) (hrun := ?h39w) (ha := ?b39w) (h := ?_)
  case h39w => (have hq := qL; go_simp; try with_reducible rfl)
  case b39w => (simp only [Act.put, List.setIfInBounds_toArray, List.set_cons_zero, List.set_cons_succ]; rfl)
  refine Rg.seq 40 (some 82) hSn (v := ?v40w) (a' := ?a40w) (hrun := ?h40w) (ha := ?b40w) (h := ?_)
  case h40w => (go_simp; try with_reducible rfl)
  case b40w => (simp only [Act.put, List.setIfInBounds_toArray, List.set_cons_zero, List.set_cons_succ]; rfl)
  refine Rg.seq 41 (some 83) hSn (v := ?v41w) (a' := ?a41w) (hrun := ?h41w) (ha := ?b41w) (h := ?_)
  case h41w => (go_simp; try with_reducible rfl)
  case b41w => (simp only [Act.put, List.setIfInBounds_toArray, List.set_cons_zero, List.set_cons_succ]; rfl)
  refine Rg.seq 42 (some 0) hSn (v := ?v42w) (a' := ?a42w) (hrun := ?h42w) (ha := ?b42w) (h := ?_)
  case h42w => (go_simp; try with_reducible rfl)
  case b42w => (simp only [Act.put, List.setIfInBounds_toArray, List.set_cons_zero, List.set_cons_succ]; rfl)
  refine Rg.done _ (h := ?_)
  go_wp2
  go_ret
  exact ⟨rfl, HPa.out.fr.trans hSn⟩
end Go.Proofs.YtccmmnacejdeoaaGreatDoor

/-
  Two operations of a region that make or write memory, either of which may come first.
-/
namespace Go.Proofs.YtccmmnacejdeoaaGreatDoor
set_option linter.unusedSimpArgs false
set_option linter.unusedVariables false
open Go.RowKit

section
variable {P : Program} {md : Region.Mode} {ops : Array Oper} {Q : Exit → Act → World → Prop} {S : World → Prop} {z : List Nat}
/-- Either may come first. -/
theorem Rg.fork (i j : Nat) {oi oj : Oper} {fuel : Nat} {listed : Array Bool} {a : Act} {w : World} (hi : ops[i]? = some oi := by rfl) (hj : ops[j]? = some oj := by rfl) (hr : Region.ready md ops listed = [i, j] := by kernel_rfl)
    (hwi : Region.wanted oi (yielded ops a.tmps) = true := by rfl) (hwj : Region.wanted oj (yielded ops a.tmps) = true := by rfl)
    (h1 : oi.wp P a w (fun b u => (i ∉ z → S u) ∧ Rg P md ops Q S z fuel (listed.setIfInBounds i true) b u) Q)
    (h2 : oj.wp P a w (fun b u => (j ∉ z → S u) ∧ Rg P md ops Q S z fuel (listed.setIfInBounds j true) b u) Q) : Rg P md ops Q S z (fuel + 1) listed a w := by
  refine ⟨fun e => (by rw [e] at hr; cases hr), fun k hk => ?_⟩
  rw [hr] at hk
  rcases List.mem_cons.1 hk with rfl | hk
  · unfold wpOp
    rw [hi]
    dsimp only
    rw [if_pos hwi]
    exact .inl h1
  · rw [List.mem_singleton] at hk
    subst hk
    unfold wpOp
    rw [hj]
    dsimp only
    rw [if_pos hwj]
    exact .inl h2
theorem Rg.atRun (d : Option Tmp) {o : Oper} {v : Value} {a a' : Act} {w w' : World} {K : Act → World → Prop} (hd : o.dst = d := by rfl)
    (hrun : (execOp a.eval o).run P w = .ok (.value v) w') (ha : a.put d v = a') (h : K a' w') : o.wp P a w K Q := by
  unfold Oper.wp
  rw [hrun]
  show K (a.put o.dst v) w'
  rw [hd, ha]
  exact h
theorem Rg.atCall (d : Option Tmp) {o : Oper} {a : Act} {w : World} {f : FuncId} {args : Array Value} {R : Ending → World → Prop} {K : Act → World → Prop} (hd : o.dst = d := by rfl)
    (hrun : (execOp a.eval o).run P w = .ok (.enter f args) w) (hcall : Calls P f args w R)
    (h : ∀ e w', R e w' → ∃ v a', e = .returned v ∧ a.put d v = a' ∧ K a' w') : o.wp P a w K Q := by
  unfold Oper.wp
  rw [hrun]
  refine hcall.mono ?_
  intro e w' hR
  obtain ⟨v, a', rfl, ha, h2⟩ := h e w' hR
  show K (a.put o.dst v) w'
  rw [hd, ha]
  exact h2
end
end Go.Proofs.YtccmmnacejdeoaaGreatDoor

/-
  PoolFrames walked.
-/
namespace Go.Proofs.YtccmmnacejdeoaaGreatDoor
set_option linter.unusedSimpArgs false
set_option linter.unusedVariables false
open Go.RowKit Go.Maps

/-- The cells of a script. -/
def Ops5In (w : World) (A : Option Addr) (os : List (Int × Int × Int)) : Prop := 0 < os.length → ∃ g o, A = some ⟨g, o, none⟩ ∧ ∀ j x, os[j]? = some x → w.cell? ⟨g, o + j * 3, none⟩ = some (.int .i64 x.1) ∧ w.cell? ⟨g, o + j * 3 + 1, none⟩ = some (.int .i64 x.2.1) ∧ w.cell? ⟨g, o + j * 3 + 2, none⟩ = some (.int .i64 x.2.2)
theorem Ops5In.new {w w' : World} {A : Option Addr} {os : List (Int × Int × Int)} (h : Ops5In w A os) (hf : Fr Nob w w') : Ops5In w' A os := fun h0 => by
  obtain ⟨g, o, rfl, hc⟩ := h h0
  refine ⟨g, o, rfl, fun j x hx => ?_⟩
  obtain ⟨c0, c1, c2⟩ := hc j x hx
  have hl : g < w.heap.size := cell_lt c0
  exact ⟨(hf.cell (p := ⟨g, o + j * 3, none⟩) hl (fun h => h)).trans c0, (hf.cell (p := ⟨g, o + j * 3 + 1, none⟩) hl (fun h => h)).trans c1, (hf.cell (p := ⟨g, o + j * 3 + 2, none⟩) hl (fun h => h)).trans c2⟩
theorem len_ops5 (w : World) (A : Option Addr) (n c : Nat) : (Builtin.len_ #[46] 3 #[Value.slice A n c]).run Tryz.prog w = .ok (.int .i64 n) w := by go_simp
theorem len_worlds5 (w : World) (A : Option Addr) (n c : Nat) : (Builtin.len_ #[49] 3 #[Value.slice A n c]).run Tryz.prog w = .ok (.int .i64 n) w := by go_simp
theorem andK (n : Int) (m : Int) (k : Nat) (hm : (BitVec.ofInt 64 m).toNat = 2 ^ k - 1) (hk : (2 : Nat) ^ k ∣ 2 ^ 64) (hk2 : (2 : Nat) ^ k ≤ 2 ^ 62) : ∃ q : Nat, bits .and .i64 n m = (q : Int) ∧ q < 2 ^ k := by
  have := i64_mask n m k hm hk hk2
  have hp : (0 : Int) < ((2 ^ k : Nat) : Int) := by have := Nat.two_pow_pos k; omega
  have h0 := Int.emod_nonneg n (Int.ne_of_gt hp)
  have h1 := Int.emod_lt_of_pos n hp
  exact ⟨(n % ((2 ^ k : Nat) : Int)).toNat, by rw [this]; omega, by omega⟩
def putV (V : Nat → PgV) (x : PgV) : Nat → PgV := fun no => if no = x.no then x else V no
set_option maxHeartbeats 25600000 in
set_option maxRecDepth 100000 in
theorem PoolFrames_row (a b : Int) (A0 : Option Addr) (c0 : Nat) (os : List (Int × Int × Int)) (w : World) (hr : Ops5In w A0 os) :
    Calls Tryz.prog 4 #[.int .i64 a, .int .i64 b, .slice A0 os.length c0] w fun e w' => e = .returned (.bool true) ∧ Fr Nob w w' := by
  have qO := len_ops5
  have qW := len_worlds5
  obtain ⟨ka, hka, hka8⟩ := andK a 7 3 (by decide) (by decide) (by decide)
  obtain ⟨kb, hkb, hkb8⟩ := andK b 31 5 (by decide) (by decide) (by decide)
  have ea : IntKind.i64.wrap ((ka : Int) + 1) = (ka : Int) + 1 := by rw [IntKind.wrap_i64]; omega
  have eb : IntKind.i64.wrap ((kb : Int) + 1) = (kb : Int) + 1 := by rw [IntKind.wrap_i64]; omega
  have HR := Lib.hid hr
  have HMd : Hid (∀ (fr : Int) (W : World), 1 ≤ fr → fr ≤ 64 → Calls Tryz.prog 6 #[.int .i64 fr] W fun e w' => ∃ g d f l p U, e = .returned (.pointer (some ⟨g, 0, none⟩)) ∧ PW W w' U g d f l p fr V0 (LS.empty 144 80) 0 0 (fun _ => False)) := fun fr W h1 h2 => made5_pw fr W h1 h2
  have HAw : Hid (∀ W, Calls Tryz.prog 11 #[] W fun e w' => e = .returned (.bool true) ∧ Fr Nob W w') := fun W => awake5_any W
  have HDt : Hid (∀ (n : Nat) (W : World), n < 2 ^ 8 → Calls Tryz.prog 13 #[.int .i64 n] W fun e w' => e = .returned (.slice (some ⟨W.heap.size, 0, none⟩) 480 480) ∧ Blk w' W.heap.size 5 (bts (dataB n)).toArray ∧ Fr Nob W w') := fun n W hn => Data_any n W (by omega)
  have hnx : (LS.empty 144 80).next = 1 := rfl
  have hrm : (3456 : Int) ≤ (LS.empty 144 80).room := by decide
  obtain ⟨L0, hL0⟩ : ∃ L, LS.empty 144 80 = L := ⟨_, rfl⟩
  rw [hL0] at hnx hrm HMd
  have HNx := Lib.hid hnx
  obtain ⟨n, hn⟩ : ∃ n, os.length = n := ⟨_, rfl⟩
  have HN := Lib.hid hn
  rw [hn]
  clear hr hL0 hnx hn
  go_enter Tryz.func4, Tryz.ntmps4
  go_wp2_with fail
  refine (HMd.out ((ka : Int) + 1) w (by omega) (by omega)).mono ?_
  rintro e w1 ⟨g1, d1, f1, l1, p1, U1, rfl, hp1⟩
  have HP1 := Lib.hid (hp1.dmono (Dt' := fun _ => True) (fun _ _ => trivial))
  clear hp1
  go_wp2_with fail
  refine (HMd.out ((kb : Int) + 1) w1 (by omega) (by omega)).mono ?_
  rintro e w2 ⟨g2, d2, f2, l2, p2, U2, rfl, hp2⟩
  have HPr : Hid (Pair w w2 (fun x => x = g1 ∨ x = g2) ⟨g1, d1, f1, l1, p1⟩ ⟨g2, d2, f2, l2, p2⟩ ((ka : Int) + 1) ((kb : Int) + 1) V0 V0 L0 L0 0 0 0 0 (fun _ => True) (fun _ => True)) := Pair.mk_ HP1.out (hp2.dmono (Dt' := fun _ => True) (fun _ _ => trivial))
  clear hp2 HP1 HMd hka hkb ea eb
  go_wp2
  go_loopw [9, 10, 12, 13, 14, 16, 18] (fun s9 _ _ _ _ _ _ wr => ∃ (i M N : Nat) (V : Nat → PgV) (L : LS), i ≤ n ∧ i ≤ 40 ∧ M ≤ 3 * i ∧ N ≤ i ∧ L.next ≤ i + 1 ∧ 3456 - 17 * (i : Int) ≤ L.room ∧ s9 = .int .i64 i ∧ Hid (Pair w wr (fun x => x = g1 ∨ x = g2) ⟨g1, d1, f1, l1, p1⟩ ⟨g2, d2, f2, l2, p2⟩ ((ka : Int) + 1) ((kb : Int) + 1) V V L L M M N N (fun _ => True) (fun _ => True))) (fun s9 _ _ _ _ _ _ _ => n - (intOf s9).toNat)
  case atStart => exact ⟨0, 0, 0, V0, L0, by omega, by omega, by omega, by omega, by rw [HNx.out]; omega, by omega, rfl, HPr.out⟩
  case round =>
    obtain ⟨i, M, N, V, L, hi, hi40, hM, hN, hLn, hLr, rfl, hPr⟩ := hrel
    have HPi := Lib.hid hPr.out
    clear hPr HPr
    by_cases hc : i < n ∧ i < 40
    · obtain ⟨hlt, hlt40⟩ := hc
      have hltI : (i : Int) < (n : Int) := by omega
      have hlt40I : (i : Int) < 40 := by omega
      obtain ⟨⟨kd, no, nn⟩, hx⟩ : ∃ x, os[i]? = some x := ⟨_, List.getElem?_eq_getElem (by rw [HN.out]; exact hlt)⟩
      obtain ⟨go, oo, rfl, hcs⟩ := (HR.out.new HPi.out.fr0) (by rw [HN.out]; omega)
      obtain ⟨k0, k1, k2⟩ := hcs i _ hx
      dsimp only at k0 k1 k2
      have hgl : go < wr.heap.size := cell_lt k0
      obtain ⟨q, hq, hq8⟩ := andK no 7 3 (by decide) (by decide) (by decide)
      obtain ⟨cc, hcc, hcc8⟩ := andK nn 255 8 (by decide) (by decide) (by decide)
      have HQ := Lib.hid hq
      have HC := Lib.hid hcc
      clear hcs hx hq hcc
      go_wp2
      have hfb : Fr Nob wr ((wr.alloc (.cells #[.int .i64 kd, .int .i64 no, .int .i64 nn] 48)).alloc (.cells #[.pointer (some ⟨g1, 0, none⟩), .pointer (some ⟨g2, 0, none⟩)] 23)) := ((Fr.refl _ wr).alloc _).alloc _
      obtain ⟨z, hz⟩ : ∃ z, wr.heap.size = z := ⟨_, rfl⟩
      have hb1 : Blk ((wr.alloc (.cells #[.int .i64 kd, .int .i64 no, .int .i64 nn] 48)).alloc (.cells #[.pointer (some ⟨g1, 0, none⟩), .pointer (some ⟨g2, 0, none⟩)] 23)) z 48 #[.int .i64 kd, .int .i64 no, .int .i64 nn] := by
        rw [← hz]; exact (Blk.new wr _ _).alloc _
      have hb2 : Blk ((wr.alloc (.cells #[.int .i64 kd, .int .i64 no, .int .i64 nn] 48)).alloc (.cells #[.pointer (some ⟨g1, 0, none⟩), .pointer (some ⟨g2, 0, none⟩)] 23)) (z + 1) 23 #[.pointer (some ⟨g1, 0, none⟩), .pointer (some ⟨g2, 0, none⟩)] := by
        have := Blk.new (wr.alloc (.cells #[.int .i64 kd, .int .i64 no, .int .i64 nn] 48)) 23 #[.pointer (some ⟨g1, 0, none⟩), .pointer (some ⟨g2, 0, none⟩)]
        rwa [World.size_alloc, hz] at this
      have hpb := HPi.out.keep hfb (fun x => x = g1 ∨ x = g2 ∨ x = z ∨ x = z + 1) (fun x hx => by
        have hsz : ((wr.alloc (.cells #[.int .i64 kd, .int .i64 no, .int .i64 nn] 48)).alloc (.cells #[.pointer (some ⟨g1, 0, none⟩), .pointer (some ⟨g2, 0, none⟩)] 23)).heap.size = z + 2 := by simp [hz]
        omega) (.inl rfl) (.inr (.inl rfl))
      rw [hz]
      obtain ⟨wb, hwb⟩ : ∃ W, (wr.alloc (.cells #[.int .i64 kd, .int .i64 no, .int .i64 nn] 48)).alloc (.cells #[.pointer (some ⟨g1, 0, none⟩), .pointer (some ⟨g2, 0, none⟩)] 23) = W := ⟨_, rfl⟩
      rw [hwb] at hb1 hb2 hpb ⊢
      obtain ⟨V', L', N', hv0, hv1, hn', hr', hN'⟩ : ∃ (V' : Nat → PgV) (L' : LS) (N' : Nat), (kd = 0 → V' = putV V ⟨q, L.next, dataB cc⟩ ∧ L' = L.add [UInt8.ofNat i] ∧ N' = N + 1) ∧ (¬ kd = 0 → V' = V ∧ L' = L ∧ N' = N) ∧ L'.next ≤ i + 1 + 1 ∧ 3456 - 17 * ((i + 1 : Nat) : Int) ≤ L'.room ∧ N' ≤ i + 1 := by
        by_cases h : kd = 0
        · refine ⟨_, _, _, fun _ => ⟨rfl, rfl, rfl⟩, fun e => absurd h e, ?_, ?_, by omega⟩
          · show L.next + 1 ≤ _; omega
          · have e : (L.add [UInt8.ofNat i]).room = L.room - 17 := by simp [LS.add] <;> omega
            rw [e]; omega
        · exact ⟨V, L, N, fun e => absurd e h, fun _ => ⟨rfl, rfl, rfl⟩, by omega, by omega, by omega⟩
      have HV0 := Lib.hid hv0
      have HV1 := Lib.hid hv1
      have HB1 := Lib.hid hb1
      have HB2 := Lib.hid hb2
      have HPb : Hid (Stg w wb (fun x => x = g1 ∨ x = g2 ∨ x = z ∨ x = z + 1) ⟨g1, d1, f1, l1, p1⟩ ⟨g2, d2, f2, l2, p2⟩ ((ka : Int) + 1) ((kb : Int) + 1) V V' L L' M N N' 0) := hpb
      clear hwb hfb hz hb1 hb2 hpb hv0 hv1 HPi k0 k1 k2
      go_loopw [12, 13, 14, 56, 62, 94] (fun _ _ _ s56 _ _ wi => ∃ j : Nat, j ≤ 2 ∧ s56 = .int .i64 j ∧ Hid (Stg w wi (fun x => x = g1 ∨ x = g2 ∨ x = z ∨ x = z + 1) ⟨g1, d1, f1, l1, p1⟩ ⟨g2, d2, f2, l2, p2⟩ ((ka : Int) + 1) ((kb : Int) + 1) V V' L L' M N N' j) ∧ Hid (Blk wi z 48 #[.int .i64 kd, .int .i64 no, .int .i64 nn]) ∧ Hid (Blk wi (z + 1) 23 #[.pointer (some ⟨g1, 0, none⟩), .pointer (some ⟨g2, 0, none⟩)])) (fun _ _ _ s56 _ _ _ => 2 - (intOf s56).toNat)
      case atStart => exact ⟨0, by omega, rfl, HPb.out, HB1.out, HB2.out⟩
      case round =>
        obtain ⟨j, hj, rfl, hst, hq1, hq2⟩ := hrel
        by_cases hj2 : j < 2
        · obtain ⟨hd, fr, U, hph, hK, hgj, hstep⟩ := Stg.step hst.out hj2
          have hjI : (j : Int) < 2 := by omega
          have hj0 : (0 : Int) ≤ (j : Int) := by omega
          have cj : wr.cell? ⟨z + 1, j, none⟩ = some (.pointer (some ⟨hd.g, 0, none⟩)) := by
            have h5 := hq2.out.cell j
            rw [List.getElem?_toArray] at h5
            rw [h5]
            rcases (by omega : j = 0 ∨ j = 1) with rfl | rfl
            · injection hgj with hgj; rw [← hgj]; rfl
            · injection hgj with hgj; rw [← hgj]; rfl
          have cz := cell_lt cj
          dsimp only at cz
          have b0 := hq1.out.cell 0
          have b1 := hq1.out.cell 1
          have b2 := hq1.out.cell 2
          have bz := hq1.out.lt
          simp only [List.getElem?_toArray, List.getElem?_cons_zero, List.getElem?_cons_succ] at b0 b1 b2
          have HPh := Lib.hid hph
          have HKk := Lib.hid hK
          have HSt := Lib.hid hstep
          have HQ1 := Lib.hid hq1.out
          have HQ2 := Lib.hid hq2.out
          have gl := hph.wld.cl
          have gp := hph.wld.cp
          have gz := hph.lt
          obtain ⟨eg, heg⟩ : ∃ x, hd.g = x := ⟨_, rfl⟩
          obtain ⟨el, hel⟩ : ∃ x, hd.l = x := ⟨_, rfl⟩
          obtain ⟨ep, hep⟩ : ∃ x, hd.p = x := ⟨_, rfl⟩
          rw [heg] at cj gl gp gz
          rw [hel] at gl
          rw [hep] at gp
          have HEg := Lib.hid heg
          have HEl := Lib.hid hel
          have HEp := Lib.hid hep
          clear hst hq1 hq2 hph hK hgj hstep heg hel hep
          by_cases hk0 : kd = 0
          · subst hk0
            have eu8 : IntKind.u8.wrap (i : Int) = (i : Int) := by rw [IntKind.wrap_u8]; omega
            go_wp2_with fail
            have hb5 : Blk (wr.alloc (.cells #[.int .u8 i] 5)) wr.heap.size 5 #[.int .u8 i] := Blk.new _ _ _
            have e5 : (#[.int .u8 i] : Array Value) = (bts [UInt8.ofNat i]).toArray := by
              have h5 : (UInt8.ofNat i).toNat = i := by rw [UInt8.toNat_ofNat']; omega
              simp [bts, h5]
            have hfc : Fr Nob wr (wr.alloc (.cells #[.int .u8 i] 5)) := (Fr.refl _ wr).alloc _
            have hbi : BytesIn (wr.alloc (.cells #[.int .u8 i] 5)) (some ⟨wr.heap.size, 0, none⟩) [UInt8.ofNat i] := bytesIn_of (Eq.mp (congrArg (fun z => Blk (wr.alloc (.cells #[.int .u8 i] 5)) wr.heap.size 5 z) e5) hb5)
            have hap := PH.app (PW.new HPh.out hfc) ⟨wr.heap.size, 0, none⟩ 1 [UInt8.ofNat i] hbi (by simp) (by simp) (by show (1 : Int) + 16 ≤ L.room; omega) (by omega)
            rw [show ([UInt8.ofNat i] : List UInt8).length = 1 from rfl, HEl.out] at hap
            have HAp := Lib.hid hap
            have HFc := Lib.hid hfc
            clear hb5 e5 hfc hbi hap
            refine HAp.out.mono ?_
            rintro e w4 ⟨rfl, hnx4⟩
            have hn4 := Nx.pre HFc.out hnx4
            obtain ⟨U4, hp4, hs4, hf4⟩ := hn4
            have hK4 : ∀ x, (x = g1 ∨ x = g2 ∨ x = z ∨ x = z + 1) → ¬ U4 x := fun x hx e => by
              obtain ⟨k1, k2⟩ := HKk.out x hx
              rcases hs4 x e with e | e
              · exact k2 e
              · omega
            have hq1 := HQ1.out.fr hf4 (HKk.out z (.inr (.inr (.inl rfl)))).2
            have hq2 := HQ2.out.fr hf4 (HKk.out (z + 1) (.inr (.inr (.inr rfl)))).2
            have b1 := hq1.cell 1
            have b2 := hq1.cell 2
            have bz := hq1.lt
            simp only [List.getElem?_toArray, List.getElem?_cons_zero, List.getElem?_cons_succ] at b1 b2
            have gp := hp4.wld.cp
            have gz := hp4.lt
            rw [HEg.out] at gp gz
            rw [HEp.out] at gp
            have HP4 := Lib.hid hp4
            have HS4 := Lib.hid hs4
            have HF4 := Lib.hid hf4
            have HK4 := Lib.hid hK4
            have HQ1 := Lib.hid hq1
            have HQ2 := Lib.hid hq2
            clear HAp hnx4 hp4 hs4 hf4 hK4 hq1 hq2 HFc b0 cj cz gl
            have hq := HQ.out
            have hc := HC.out
            go_wp2
            have hS : Fr Nob w4 w4.drew := (Fr.refl _ w4).drew
            refine Rg.begin (Fr Nob w4) [16, 17, 18] (by kernel_rfl) ?_
            refine Rg.op 0 (some 75) hS (v := ?v0p) (a' := ?a0p) (hy := fun wz hwz => ?h0p) (ha := ?b0p) (h := ?_)
            case h0p => (go_simp; try with_reducible rfl)
            case b0p => (simp only [Act.put, List.setIfInBounds_toArray, List.set_cons_zero, List.set_cons_succ]; rfl)
            refine Rg.op 1 (some 76) hS (v := (.bool false)) (a' := ?a1p) (hy := fun wz hwz => ?h1p) (ha := ?b1p) (h := ?_)
            case h1p => (go_simp; try with_reducible rfl)
            case b1p => (simp only [Act.put, List.setIfInBounds_toArray, List.set_cons_zero, List.set_cons_succ]; rfl)
            refine Rg.op 2 (some 77) hS (v := ?v2p) (a' := ?a2p) (hy := fun wz hwz => ?h2p) (ha := ?b2p) (h := ?_)
            case h2p => (go_simp; try with_reducible rfl)
            case b2p => (simp only [Act.put, List.setIfInBounds_toArray, List.set_cons_zero, List.set_cons_succ]; rfl)
            refine Rg.op 3 (some 78) hS (v := ?v3p) (a' := ?a3p) (hy := fun wz hwz => ?h3p) (ha := ?b3p) (h := ?_)
            case h3p => (go_simp; try with_reducible rfl)
            case b3p => (simp only [Act.put, List.setIfInBounds_toArray, List.set_cons_zero, List.set_cons_succ]; rfl)
            refine Rg.op 4 (some 79) hS (v := ?v4p) (a' := ?a4p) (hy := fun wz hwz => ?h4p) (ha := ?b4p) (h := ?_)
            case h4p => (have hpp := Nat.lt_of_lt_of_le gz hwz.size; go_simp; try with_reducible rfl)
            case b4p => (simp only [Act.put, List.setIfInBounds_toArray, List.set_cons_zero, List.set_cons_succ]; rfl)
            refine Rg.op 5 (some 80) hS (v := ?v5p) (a' := ?a5p) (hy := fun wz hwz => ?h5p) (ha := ?b5p) (h := ?_)
            case h5p => (have hpp := Nat.lt_of_lt_of_le gz hwz.size; go_simp; try with_reducible rfl)
            case b5p => (simp only [Act.put, List.setIfInBounds_toArray, List.set_cons_zero, List.set_cons_succ]; rfl)
            refine Rg.op 6 (some 81) hS (v := (.pointer (some ⟨ep, 0, none⟩))) (a' := ?a6p) (hy := fun wz hwz => ?h6p) (ha := ?b6p) (h := ?_)
            case h6p => (have cx := (hwz.cell (p := ⟨eg, 3, none⟩) gz (fun h => h)).trans gp; have hpp := Nat.lt_of_lt_of_le gz hwz.size; go_simp; try with_reducible rfl)
            case b6p => (simp only [Act.put, List.setIfInBounds_toArray, List.set_cons_zero, List.set_cons_succ]; rfl)
            refine Rg.op 7 (some 82) hS (v := ?v7p) (a' := ?a7p) (hy := fun wz hwz => ?h7p) (ha := ?b7p) (h := ?_)
            case h7p => (have hpp := Nat.lt_of_lt_of_le bz hwz.size; go_simp; try with_reducible rfl)
            case b7p => (simp only [Act.put, List.setIfInBounds_toArray, List.set_cons_zero, List.set_cons_succ]; rfl)
            refine Rg.op 8 (some 83) hS (v := (.int .i64 no)) (a' := ?a8p) (hy := fun wz hwz => ?h8p) (ha := ?b8p) (h := ?_)
            case h8p => (have cx := (hwz.cell (p := ⟨z, 1, none⟩) bz (fun h => h)).trans b1; have hpp := Nat.lt_of_lt_of_le bz hwz.size; go_simp; try with_reducible rfl)
            case b8p => (simp only [Act.put, List.setIfInBounds_toArray, List.set_cons_zero, List.set_cons_succ]; rfl)
            refine Rg.op 9 (some 84) hS (v := (.int .i64 q)) (a' := ?a9p) (hy := fun wz hwz => ?h9p) (ha := ?b9p) (h := ?_)
            case h9p => (have hh := HQ.out; go_simp; try with_reducible rfl)
            case b9p => (simp only [Act.put, List.setIfInBounds_toArray, List.set_cons_zero, List.set_cons_succ]; rfl)
            refine Rg.op 10 (some 85) hS (v := ?v10p) (a' := ?a10p) (hy := fun wz hwz => ?h10p) (ha := ?b10p) (h := ?_)
            case h10p => (go_simp; try with_reducible rfl)
            case b10p => (simp only [Act.put, List.setIfInBounds_toArray, List.set_cons_zero, List.set_cons_succ]; rfl)
            refine Rg.op 11 (some 86) hS (v := ?v11p) (a' := ?a11p) (hy := fun wz hwz => ?h11p) (ha := ?b11p) (h := ?_)
            case h11p => (have hpp := Nat.lt_of_lt_of_le bz hwz.size; go_simp; try with_reducible rfl)
            case b11p => (simp only [Act.put, List.setIfInBounds_toArray, List.set_cons_zero, List.set_cons_succ]; rfl)
            refine Rg.op 12 (some 87) hS (v := (.int .i64 nn)) (a' := ?a12p) (hy := fun wz hwz => ?h12p) (ha := ?b12p) (h := ?_)
            case h12p => (have cx := (hwz.cell (p := ⟨z, 2, none⟩) bz (fun h => h)).trans b2; have hpp := Nat.lt_of_lt_of_le bz hwz.size; go_simp; try with_reducible rfl)
            case b12p => (simp only [Act.put, List.setIfInBounds_toArray, List.set_cons_zero, List.set_cons_succ]; rfl)
            refine Rg.op 13 (some 88) hS (v := (.int .i64 cc)) (a' := ?a13p) (hy := fun wz hwz => ?h13p) (ha := ?b13p) (h := ?_)
            case h13p => (have hh := HC.out; go_simp; try with_reducible rfl)
            case b13p => (simp only [Act.put, List.setIfInBounds_toArray, List.set_cons_zero, List.set_cons_succ]; rfl)
            refine Rg.call 14 (some 89) (hrun := ?h14p) (hcall := HDt.out cc _ hcc8) (h := ?_)
            case h14p => (go_simp)
            rintro e wd ⟨rfl, hbd, hfd⟩
            have hSd : Fr Nob w4 wd := hS.trans hfd
            clear hfd
            obtain ⟨gd, hgd⟩ : ∃ s, w4.drew.heap.size = s := ⟨_, rfl⟩
            rw [hgd] at hbd ⊢
            have hgl4 : w4.heap.size ≤ gd := by rw [← hgd]; simp
            have HBd := Lib.hid hbd
            clear hgd hbd
            refine ⟨_, ?a14p, rfl, ?b14p, (fun _ => hSd), ?_⟩
            case b14p => (simp only [Act.put, List.setIfInBounds_toArray, List.set_cons_zero, List.set_cons_succ]; rfl)
            refine Rg.op 15 (some 90) hSd (v := ?v15p) (a' := ?a15p) (hy := fun wz hwz => ?h15p) (ha := ?b15p) (h := ?_)
            case h15p => (go_simp; try with_reducible rfl)
            case b15p => (simp only [Act.put, List.setIfInBounds_toArray, List.set_cons_zero, List.set_cons_succ]; rfl)
            have hput := PH.put (PW.new HP4.out hSd) ⟨q, L.next, dataB cc⟩ gd 0 480 ⟨bytesIn_of HBd.out, by show (dataB cc).length ≤ 480; rw [dataB_length]; exact Nat.le_refl _, fun a ha => by injection ha with ha; subst ha; exact HBd.out.lt⟩ ⟨by show q < 100000; omega, by show L.next < 18446744073709551616; omega, dataB_length cc⟩ (by show q < 8; omega) (by show L.next < L.next + 1; omega) (fun e => by have := HP4.out.lo _ e; omega) (by omega)
            rw [HEp.out] at hput
            have HPut := Lib.hid hput
            have HSd := Lib.hid hSd
            clear hput
            refine Rg.call 16 (some 91) (hrun := ?h16p) (hcall := HPut.out) (h := ?_)
            case h16p => (go_simp)
            rintro e w5 ⟨rfl, hn5⟩
            refine ⟨_, ?a16p, rfl, ?b16p, (fun h => absurd (by decide) h), ?_⟩
            case b16p => (simp only [Act.put, List.setIfInBounds_toArray, List.set_cons_zero, List.set_cons_succ]; rfl)
            refine Rg.late 17 (some 92) (v := ?v17p) (a' := ?a17p) (hrun := ?h17p) (ha := ?b17p) (h := ?_)
            case h17p => (go_simp; try with_reducible rfl)
            case b17p => (simp only [Act.put, List.setIfInBounds_toArray, List.set_cons_zero, List.set_cons_succ]; rfl)
            refine Rg.late 18 (some 93) (v := ?v18p) (a' := ?a18p) (hrun := ?h18p) (ha := ?b18p) (h := ?_)
            case h18p => (go_simp; try with_reducible rfl)
            case b18p => (simp only [Act.put, List.setIfInBounds_toArray, List.set_cons_zero, List.set_cons_succ]; rfl)
            refine Rg.done _ (h := ?_)
            have hn6 : Nx w w4 w5 U4 hd fr (putV V ⟨q, L.next, dataB cc⟩) (L.add [UInt8.ofNat i]) (M + 1) (N + 1) (fun _ => True) := Nx.pre HSd.out hn5
            have hn7 : Nx w wr w5 U hd fr (putV V ⟨q, L.next, dataB cc⟩) (L.add [UInt8.ofNat i]) (M + 1) (N + 1) (fun _ => True) := by
              obtain ⟨U5, r1, r2, r3⟩ := hn6
              have hz4 := HF4.out.size
              refine ⟨U5, r1, fun b hb => ?_, HF4.out.step r3 (fun x hx e => ?_)⟩
              · rcases r2 b hb with e | e
                · exact HS4.out b e
                · exact .inr (by omega)
              · rcases HS4.out x e with e | e
                · exact e
                · omega
            obtain ⟨U5, r1, r2, r3⟩ := hn6
            have hq1 := HQ1.out.fr r3 (HK4.out z (.inr (.inr (.inl rfl))))
            have hq2 := HQ2.out.fr r3 (HK4.out (z + 1) (.inr (.inr (.inr rfl))))
            obtain ⟨e1, e2, e3⟩ := HV0.out trivial
            have hst := HSt.out w5 (by rw [e1, e2, e3]; exact hn7)
            have HQ1 := Lib.hid hq1
            have HQ2 := Lib.hid hq2
            have HSt := Lib.hid hst
            clear hq1 hq2 hst e1 e2 e3 r1 r2 r3 hn7 hn5 HPut hS hSd hq hc b1 b2 gp
            go_wp2
            go_roundw
            case rel => exact ⟨j + 1, by omega, by go_num, HSt.out, HQ1.out, HQ2.out⟩
            case measure => simp [intOf]; omega
          · have ek0 : (kd == 0) = false := by simpa using hk0
            have ed0 : decide (kd = 0) = false := decide_eq_false hk0
            obtain ⟨e1, e2, e3⟩ := HV1.out hk0
            have HE1 := Lib.hid e1
            have HE2 := Lib.hid e2
            have HE3 := Lib.hid e3
            clear e1 e2 e3
            by_cases hk2 : kd = 2
            · subst hk2
              clear ek0 ed0 hk0
              go_wp2
              have hS : Fr Nob wr wr.drew := (Fr.refl _ wr).drew
              refine Rg.begin (Fr Nob wr) [7, 8] (by kernel_rfl) ?_
              refine Rg.op 0 (some 96) hS (v := ?v0e) (a' := ?a0e) (hy := fun wz hwz => ?h0e) (ha := ?b0e) (h := ?_)
              case h0e => (go_simp; try with_reducible rfl)
              case b0e => (simp only [Act.put, List.setIfInBounds_toArray, List.set_cons_zero, List.set_cons_succ]; rfl)
              refine Rg.op 1 (some 97) hS (v := ?v1e) (a' := ?a1e) (hy := fun wz hwz => ?h1e) (ha := ?b1e) (h := ?_)
              case h1e => (have hpp := Nat.lt_of_lt_of_le gz hwz.size; go_simp; try with_reducible rfl)
              case b1e => (simp only [Act.put, List.setIfInBounds_toArray, List.set_cons_zero, List.set_cons_succ]; rfl)
              refine Rg.op 2 (some 98) hS (v := ?v2e) (a' := ?a2e) (hy := fun wz hwz => ?h2e) (ha := ?b2e) (h := ?_)
              case h2e => (have hpp := Nat.lt_of_lt_of_le gz hwz.size; go_simp; try with_reducible rfl)
              case b2e => (simp only [Act.put, List.setIfInBounds_toArray, List.set_cons_zero, List.set_cons_succ]; rfl)
              refine Rg.op 3 (some 99) hS (v := (.pointer (some ⟨ep, 0, none⟩))) (a' := ?a3e) (hy := fun wz hwz => ?h3e) (ha := ?b3e) (h := ?_)
              case h3e => (have cx := (hwz.cell (p := ⟨eg, 3, none⟩) gz (fun h => h)).trans gp; have hpp := Nat.lt_of_lt_of_le gz hwz.size; go_simp; try with_reducible rfl)
              case b3e => (simp only [Act.put, List.setIfInBounds_toArray, List.set_cons_zero, List.set_cons_succ]; rfl)
              refine Rg.op 4 (some 100) hS (v := ?v4e) (a' := ?a4e) (hy := fun wz hwz => ?h4e) (ha := ?b4e) (h := ?_)
              case h4e => (have hpp := Nat.lt_of_lt_of_le bz hwz.size; go_simp; try with_reducible rfl)
              case b4e => (simp only [Act.put, List.setIfInBounds_toArray, List.set_cons_zero, List.set_cons_succ]; rfl)
              refine Rg.op 5 (some 101) hS (v := (.int .i64 no)) (a' := ?a5e) (hy := fun wz hwz => ?h5e) (ha := ?b5e) (h := ?_)
              case h5e => (have cx := (hwz.cell (p := ⟨z, 1, none⟩) bz (fun h => h)).trans b1; have hpp := Nat.lt_of_lt_of_le bz hwz.size; go_simp; try with_reducible rfl)
              case b5e => (simp only [Act.put, List.setIfInBounds_toArray, List.set_cons_zero, List.set_cons_succ]; rfl)
              refine Rg.op 6 (some 102) hS (v := (.int .i64 q)) (a' := ?a6e) (hy := fun wz hwz => ?h6e) (ha := ?b6e) (h := ?_)
              case h6e => (have hh := HQ.out; go_simp; try with_reducible rfl)
              case b6e => (simp only [Act.put, List.setIfInBounds_toArray, List.set_cons_zero, List.set_cons_succ]; rfl)
              have hev := PH.evict (PW.new HPh.out hS) q (by omega) (by omega)
              rw [HEp.out] at hev
              have HEv := Lib.hid hev
              clear hev
              refine Rg.call 7 (some 103) (hrun := ?h7e) (hcall := HEv.out) (h := ?_)
              case h7e => (go_simp)
              rintro e w5 ⟨rfl, hn5⟩
              refine ⟨_, ?a7e, rfl, ?b7e, (fun h => absurd (by decide) h), ?_⟩
              case b7e => (simp only [Act.put, List.setIfInBounds_toArray, List.set_cons_zero, List.set_cons_succ]; rfl)
              refine Rg.late 8 (some 104) (v := ?v8e) (a' := ?a8e) (hrun := ?h8e) (ha := ?b8e) (h := ?_)
              case h8e => (go_simp; try with_reducible rfl)
              case b8e => (simp only [Act.put, List.setIfInBounds_toArray, List.set_cons_zero, List.set_cons_succ]; rfl)
              refine Rg.done _ (h := ?_)
              have hn6 : Nx w wr w5 U hd fr V L (M + 1) N (fun _ => True) := Nx.pre hS hn5
              obtain ⟨U5, r1, r2, r3⟩ := id hn6
              have hq1 := HQ1.out.fr r3 (HKk.out z (.inr (.inr (.inl rfl)))).2
              have hq2 := HQ2.out.fr r3 (HKk.out (z + 1) (.inr (.inr (.inr rfl)))).2
              have hst := HSt.out w5 (by rw [HE1.out, HE2.out, HE3.out]; exact hn6)
              have HQ1 := Lib.hid hq1
              have HQ2 := Lib.hid hq2
              have HSt := Lib.hid hst
              clear hq1 hq2 hst r1 r2 r3 hn6 hn5 HEv hS b0 b1 b2 gp cj
              go_wp2
              go_roundw
              case rel => exact ⟨j + 1, by omega, by go_num, HSt.out, HQ1.out, HQ2.out⟩
              case measure => simp [intOf]; omega
            · have ek2 : (kd == 2) = false := by simpa using hk2
              have ed2 : decide (kd = 2) = false := decide_eq_false hk2
              have hst := HSt.out wr (by rw [HE1.out, HE2.out, HE3.out]; exact (Nx.new HPh.out (Fr.refl _ _)).more (by omega) (by omega))
              have HSt := Lib.hid hst
              clear hst
              go_wp2
              go_roundw
              case rel => exact ⟨j + 1, by omega, by go_num, HSt.out, HQ1.out, HQ2.out⟩
              case measure => simp [intOf]; omega
        · obtain rfl : j = 2 := by omega
          have hpr : Pair w wr (fun x => x = g1 ∨ x = g2 ∨ x = z ∨ x = z + 1) ⟨g1, d1, f1, l1, p1⟩ ⟨g2, d2, f2, l2, p2⟩ ((ka : Int) + 1) ((kb : Int) + 1) V' V' L' L' (M + 1) (M + 1) N' N' (fun _ => True) (fun _ => True) := hst.out
          have b1 := hq1.out.cell 1
          have bz := hq1.out.lt
          simp only [List.getElem?_toArray, List.getElem?_cons_zero, List.getElem?_cons_succ] at b1
          have gp1 := hpr.wa.cp
          have gz1 : g1 < wr.heap.size := cell_lt gp1
          dsimp only at gp1
          have HPr := Lib.hid hpr
          have HQ1 := Lib.hid hq1.out
          clear hst hq1 hq2 hpr
          go_upto_region 20 with fail
          go_cut [15, 16] (fun sp se wx => ∃ gp qq : Nat, sp = .pointer (some ⟨gp, 0, none⟩) ∧ se = .int .i64 0 ∧ Hid (Pair w wx (fun x => x = g1 ∨ x = g2 ∨ x = z ∨ x = gp ∨ x = qq) ⟨g1, d1, f1, l1, p1⟩ ⟨g2, d2, f2, l2, p2⟩ ((ka : Int) + 1) ((kb : Int) + 1) V' V' L' L' (M + 1 + 1) (M + 1) N' N' (fun _ => True) (fun _ => True)) ∧ Hid (Blk wx z 48 #[.int .i64 kd, .int .i64 no, .int .i64 nn]) ∧ Hid (Blk wx gp 40 #[.int .i64 q, .int .u64 (V' q).lsn, .slice (some ⟨qq, 0, none⟩) 480 480]) ∧ Hid (BytesIn wx (some ⟨qq, 0, none⟩) (V' q).d))
          case first =>
            obtain ⟨U, hph, hK, hstep⟩ := Pair.fstK HPr.out
            have HPh := Lib.hid hph
            have HKk := Lib.hid hK
            have HSt := Lib.hid hstep
            clear hph hK hstep
            go_wp2
            have hS : wr.drew.cell? ⟨g1, 3, none⟩ = some (.pointer (some ⟨p1, 0, none⟩)) ∧ wr.drew.cell? ⟨z, 1, none⟩ = some (.int .i64 no) ∧ g1 < wr.drew.heap.size ∧ z < wr.drew.heap.size := ⟨gp1, b1, gz1, bz⟩
            have hf0 : Fr Nob wr wr.drew := (Fr.refl _ wr).drew
            refine Rg.begin (fun u => u.cell? ⟨g1, 3, none⟩ = some (.pointer (some ⟨p1, 0, none⟩)) ∧ u.cell? ⟨z, 1, none⟩ = some (.int .i64 no) ∧ g1 < u.heap.size ∧ z < u.heap.size) [] (by kernel_rfl) ?_
            refine Rg.op 0 (some 107) hS (v := ?v0g) (a' := ?a0g) (hy := fun wz hwz => ?h0g) (ha := ?b0g) (h := ?_)
            case h0g => (obtain ⟨hx1, hx2, hx3, hx4⟩ := hwz; go_simp; try with_reducible rfl)
            case b0g => (simp only [Act.put, List.setIfInBounds_toArray, List.set_cons_zero, List.set_cons_succ]; rfl)
            refine Rg.op 1 (some 108) hS (v := ?v1g) (a' := ?a1g) (hy := fun wz hwz => ?h1g) (ha := ?b1g) (h := ?_)
            case h1g => (obtain ⟨hx1, hx2, hx3, hx4⟩ := hwz; go_simp; try with_reducible rfl)
            case b1g => (simp only [Act.put, List.setIfInBounds_toArray, List.set_cons_zero, List.set_cons_succ]; rfl)
            refine Rg.op 2 (some 109) hS (v := ?v2g) (a' := ?a2g) (hy := fun wz hwz => ?h2g) (ha := ?b2g) (h := ?_)
            case h2g => (obtain ⟨hx1, hx2, hx3, hx4⟩ := hwz; go_simp; try with_reducible rfl)
            case b2g => (simp only [Act.put, List.setIfInBounds_toArray, List.set_cons_zero, List.set_cons_succ]; rfl)
            refine Rg.op 3 (some 110) hS (v := (.pointer (some ⟨p1, 0, none⟩))) (a' := ?a3g) (hy := fun wz hwz => ?h3g) (ha := ?b3g) (h := ?_)
            case h3g => (obtain ⟨hx1, hx2, hx3, hx4⟩ := hwz; go_simp; try with_reducible rfl)
            case b3g => (simp only [Act.put, List.setIfInBounds_toArray, List.set_cons_zero, List.set_cons_succ]; rfl)
            refine Rg.op 4 (some 111) hS (v := ?v4g) (a' := ?a4g) (hy := fun wz hwz => ?h4g) (ha := ?b4g) (h := ?_)
            case h4g => (obtain ⟨hx1, hx2, hx3, hx4⟩ := hwz; go_simp; try with_reducible rfl)
            case b4g => (simp only [Act.put, List.setIfInBounds_toArray, List.set_cons_zero, List.set_cons_succ]; rfl)
            refine Rg.op 5 (some 112) hS (v := (.int .i64 no)) (a' := ?a5g) (hy := fun wz hwz => ?h5g) (ha := ?b5g) (h := ?_)
            case h5g => (obtain ⟨hx1, hx2, hx3, hx4⟩ := hwz; go_simp; try with_reducible rfl)
            case b5g => (simp only [Act.put, List.setIfInBounds_toArray, List.set_cons_zero, List.set_cons_succ]; rfl)
            refine Rg.op 6 (some 113) hS (v := (.int .i64 q)) (a' := ?a6g) (hy := fun wz hwz => ?h6g) (ha := ?b6g) (h := ?_)
            case h6g => (obtain ⟨hx1, hx2, hx3, hx4⟩ := hwz; have hh := HQ.out; go_simp; try with_reducible rfl)
            case b6g => (simp only [Act.put, List.setIfInBounds_toArray, List.set_cons_zero, List.set_cons_succ]; rfl)
            obtain ⟨wd, hwd⟩ : ∃ W, wr.drew = W := ⟨_, rfl⟩
            rw [hwd] at hS hf0 ⊢
            have hzd : wd.heap.size = wr.heap.size := by rw [← hwd]; rfl
            have HZd := Lib.hid hzd
            have HF0 := Lib.hid hf0
            clear hwd hzd
            refine Rg.fork 7 11 (h1 := ?fag) (h2 := ?fbg)
            case fag =>
              have hget := PH.get (PW.new HPh.out HF0.out) q (by omega) (by omega)
              have HGet := Lib.hid hget
              clear hget
              refine Rg.atCall (some 114) (hrun := ?hag) (hcall := HGet.out) (h := ?_)
              case hag => (go_simp)
              rintro e w8 ⟨qq, rfl, hcp, hqq1, hqq2, U8, hp8, hu8, hs8, hf8⟩
              have hS8 : w8.cell? ⟨g1, 3, none⟩ = some (.pointer (some ⟨p1, 0, none⟩)) ∧ w8.cell? ⟨z, 1, none⟩ = some (.int .i64 no) ∧ g1 < w8.heap.size ∧ z < w8.heap.size := ⟨(hf8.cell (p := ⟨g1, 3, none⟩) hS.2.2.1 (HKk.out g1 (.inl rfl)).2).trans hS.1, (hf8.cell (p := ⟨z, 1, none⟩) hS.2.2.2 (HKk.out z (.inr (.inr (.inl rfl)))).2).trans hS.2.1, Nat.lt_of_lt_of_le hS.2.2.1 hf8.size, Nat.lt_of_lt_of_le hS.2.2.2 hf8.size⟩
              refine ⟨_, ?aag, rfl, ?bag, (fun _ => hS8), ?_⟩
              case bag => (simp only [Act.put, List.setIfInBounds_toArray, List.set_cons_zero, List.set_cons_succ]; rfl)
              have hfn : Fr Nob w8 (w8.alloc (.cells #[.int .i64 0, .int .u64 0, .slice none 0 0] 40)) := (Fr.refl _ w8).alloc _
              have hfv : Fr Nob w8 (w8.alloc (.cells #[.int .i64 q, .int .u64 (V' q).lsn, .slice (some ⟨qq, 0, none⟩) 480 480] 40)) := (Fr.refl _ w8).alloc _
              have hS9 : (w8.alloc (.cells #[.int .i64 0, .int .u64 0, .slice none 0 0] 40)).cell? ⟨g1, 3, none⟩ = some (.pointer (some ⟨p1, 0, none⟩)) ∧ (w8.alloc (.cells #[.int .i64 0, .int .u64 0, .slice none 0 0] 40)).cell? ⟨z, 1, none⟩ = some (.int .i64 no) ∧ g1 < (w8.alloc (.cells #[.int .i64 0, .int .u64 0, .slice none 0 0] 40)).heap.size ∧ z < (w8.alloc (.cells #[.int .i64 0, .int .u64 0, .slice none 0 0] 40)).heap.size := ⟨(hfn.cell (p := ⟨g1, 3, none⟩) hS8.2.2.1 (fun h => h)).trans hS8.1, (hfn.cell (p := ⟨z, 1, none⟩) hS8.2.2.2 (fun h => h)).trans hS8.2.1, Nat.lt_of_lt_of_le hS8.2.2.1 hfn.size, Nat.lt_of_lt_of_le hS8.2.2.2 hfn.size⟩
              have hS10 : (w8.alloc (.cells #[.int .i64 q, .int .u64 (V' q).lsn, .slice (some ⟨qq, 0, none⟩) 480 480] 40)).cell? ⟨g1, 3, none⟩ = some (.pointer (some ⟨p1, 0, none⟩)) ∧ (w8.alloc (.cells #[.int .i64 q, .int .u64 (V' q).lsn, .slice (some ⟨qq, 0, none⟩) 480 480] 40)).cell? ⟨z, 1, none⟩ = some (.int .i64 no) ∧ g1 < (w8.alloc (.cells #[.int .i64 q, .int .u64 (V' q).lsn, .slice (some ⟨qq, 0, none⟩) 480 480] 40)).heap.size ∧ z < (w8.alloc (.cells #[.int .i64 q, .int .u64 (V' q).lsn, .slice (some ⟨qq, 0, none⟩) 480 480] 40)).heap.size := ⟨(hfv.cell (p := ⟨g1, 3, none⟩) hS8.2.2.1 (fun h => h)).trans hS8.1, (hfv.cell (p := ⟨z, 1, none⟩) hS8.2.2.2 (fun h => h)).trans hS8.2.1, Nat.lt_of_lt_of_le hS8.2.2.1 hfv.size, Nat.lt_of_lt_of_le hS8.2.2.2 hfv.size⟩
              refine Rg.op 8 (some 106) hS8 (v := ?v8gx) (a' := ?a8gx) (hy := fun wz hwz => ?h8gx) (ha := ?b8gx) (h := ?_)
              case h8gx => (go_simp; try with_reducible rfl)
              case b8gx => (simp only [Act.put, List.setIfInBounds_toArray, List.set_cons_zero, List.set_cons_succ]; rfl)
              refine Rg.op 9 (some 115) hS8 (v := ?v9gx) (a' := ?a9gx) (hy := fun wz hwz => ?h9gx) (ha := ?b9gx) (h := ?_)
              case h9gx => (go_simp; try with_reducible rfl)
              case b9gx => (simp only [Act.put, List.setIfInBounds_toArray, List.set_cons_zero, List.set_cons_succ]; rfl)
              refine Rg.op 10 (some 116) hS8 (v := ?v10gx) (a' := ?a10gx) (hy := fun wz hwz => ?h10gx) (ha := ?b10gx) (h := ?_)
              case h10gx => (go_simp; try with_reducible rfl)
              case b10gx => (simp only [Act.put, List.setIfInBounds_toArray, List.set_cons_zero, List.set_cons_succ]; rfl)
              refine Rg.run 11 (some 15) (v := (.pointer (some ⟨w8.heap.size, 0, none⟩))) (a' := ?a11gx) (w' := (w8.alloc (.cells #[.int .i64 0, .int .u64 0, .slice none 0 0] 40))) (hrun := ?h11gx) (ha := ?b11gx) (hS := (fun _ => hS9)) (h := ?_)
              case h11gx => (go_simp; try with_reducible rfl)
              case b11gx => (simp only [Act.put, List.setIfInBounds_toArray, List.set_cons_zero, List.set_cons_succ]; rfl)
              refine Rg.store 12 (w' := (w8.alloc (.cells #[.int .i64 q, .int .u64 (V' q).lsn, .slice (some ⟨qq, 0, none⟩) 480 480] 40))) (hrun := ?h12gx) (hS := (fun _ => hS10)) (h := ?_)
              case h12gx => (go_simp; try with_reducible rfl)
              refine Rg.op 13 (some 16) hS10 (v := ?v13gx) (a' := ?a13gx) (hy := fun wz hwz => ?h13gx) (ha := ?b13gx) (h := ?_)
              case h13gx => (go_simp; try with_reducible rfl)
              case b13gx => (simp only [Act.put, List.setIfInBounds_toArray, List.set_cons_zero, List.set_cons_succ]; rfl)
              refine Rg.done _ (h := ?_)
              have hsz8 := hf8.size
              have hszv : (w8.alloc (.cells #[.int .i64 q, .int .u64 (V' q).lsn, .slice (some ⟨qq, 0, none⟩) 480 480] 40)).heap.size = w8.heap.size + 1 := by simp
              have hpE : Pair w (w8.alloc (.cells #[.int .i64 q, .int .u64 (V' q).lsn, .slice (some ⟨qq, 0, none⟩) 480 480] 40)) (fun x => x = g1 ∨ x = g2 ∨ x = z ∨ x = w8.heap.size ∨ x = qq) ⟨g1, d1, f1, l1, p1⟩ ⟨g2, d2, f2, l2, p2⟩ ((ka : Int) + 1) ((kb : Int) + 1) V' V' L' L' (M + 1 + 1) (M + 1) N' N' (fun _ => True) (fun _ => True) := HSt.out _ U8 V' L' (M + 1 + 1) N' _ (fun x => x = g1 ∨ x = g2 ∨ x = z ∨ x = w8.heap.size ∨ x = qq) (PW.new hp8 hfv) (fun x hx => (hs8 x hx).imp id (fun e => by have := HZd.out; omega)) ((HF0.out.mono (fun _ _ h => h.elim) : Fr U wr wd).trans (hf8.trans (hfv.mono (fun _ _ h => h.elim)))) (fun x hx => by
                by_cases h5 : x = w8.heap.size
                · refine .inr ⟨by have := HZd.out; omega, by omega, fun e => ?_⟩
                  have := hp8.lo x e; omega
                · by_cases h6 : x = qq
                  · rw [h6]
                    exact .inr ⟨by have := HZd.out; omega, by omega, hu8⟩
                  · exact .inl (by omega)) (.inl rfl) (.inr (.inl rfl))
              have hfz : Fr U wr (w8.alloc (.cells #[.int .i64 q, .int .u64 (V' q).lsn, .slice (some ⟨qq, 0, none⟩) 480 480] 40)) := (HF0.out.mono (fun _ _ h => h.elim) : Fr U wr wd).trans (hf8.trans (hfv.mono (fun _ _ h => h.elim)))
              have hcb : BytesIn (w8.alloc (.cells #[.int .i64 q, .int .u64 (V' q).lsn, .slice (some ⟨qq, 0, none⟩) 480 480] 40)) (some ⟨qq, 0, none⟩) (V' q).d := hcp.bytes.new hfv
              try go_wp2
              go_meet
              case rel => exact ⟨_, qq, rfl, rfl, hpE, HQ1.out.fr hfz (HKk.out z (.inr (.inr (.inl rfl)))).2, Blk.new _ _ _, hcb⟩
            case fbg =>
              obtain ⟨gp, hgp⟩ : ∃ x, wd.heap.size = x := ⟨_, rfl⟩
              have hfA : Fr Nob wd (wd.alloc (.cells #[.int .i64 0, .int .u64 0, .slice none 0 0] 40)) := (Fr.refl _ wd).alloc _
              have hzA : (wd.alloc (.cells #[.int .i64 0, .int .u64 0, .slice none 0 0] 40)).heap.size = gp + 1 := by simp [hgp]
              have hbA : Blk (wd.alloc (.cells #[.int .i64 0, .int .u64 0, .slice none 0 0] 40)) gp 40 #[.int .i64 0, .int .u64 0, .slice none 0 0] := by rw [← hgp]; exact Blk.new _ _ _
              have hSA : (wd.alloc (.cells #[.int .i64 0, .int .u64 0, .slice none 0 0] 40)).cell? ⟨g1, 3, none⟩ = some (.pointer (some ⟨p1, 0, none⟩)) ∧ (wd.alloc (.cells #[.int .i64 0, .int .u64 0, .slice none 0 0] 40)).cell? ⟨z, 1, none⟩ = some (.int .i64 no) ∧ g1 < (wd.alloc (.cells #[.int .i64 0, .int .u64 0, .slice none 0 0] 40)).heap.size ∧ z < (wd.alloc (.cells #[.int .i64 0, .int .u64 0, .slice none 0 0] 40)).heap.size := ⟨(hfA.cell (p := ⟨g1, 3, none⟩) hS.2.2.1 (fun h => h)).trans hS.1, (hfA.cell (p := ⟨z, 1, none⟩) hS.2.2.2 (fun h => h)).trans hS.2.1, Nat.lt_of_lt_of_le hS.2.2.1 hfA.size, Nat.lt_of_lt_of_le hS.2.2.2 hfA.size⟩
              refine Rg.atRun (some 15) (v := .pointer (some ⟨wd.heap.size, 0, none⟩)) (a' := ?acg) (w' := wd.alloc (.cells #[.int .i64 0, .int .u64 0, .slice none 0 0] 40)) (hrun := ?hcg) (ha := ?bcg) (h := ⟨fun _ => hSA, ?_⟩)
              case hcg => (go_simp; try with_reducible rfl)
              case bcg => (simp only [Act.put, List.setIfInBounds_toArray, List.set_cons_zero, List.set_cons_succ]; rfl)
              obtain ⟨wA, hwA⟩ : ∃ W, wd.alloc (.cells #[.int .i64 0, .int .u64 0, .slice none 0 0] 40) = W := ⟨_, rfl⟩
              rw [hwA] at hfA hzA hbA hSA ⊢
              rw [hgp]
              have HGp := Lib.hid hgp
              have HZA := Lib.hid hzA
              have HBA := Lib.hid hbA
              have HFA := Lib.hid hfA
              have HUg : Hid (¬ U gp) := fun e => by have := HPh.out.lo _ e; have := HZd.out; have := HGp.out; omega
              clear hwA hgp hzA hbA hfA
              have hget := PH.get (PW.new HPh.out (HF0.out.trans HFA.out)) q (by omega) (by omega)
              have HGet := Lib.hid hget
              clear hget
              refine Rg.call 7 (some 114) (hrun := ?h7gy) (hcall := HGet.out) (h := ?_)
              case h7gy => (go_simp)
              rintro e w8 ⟨qq, rfl, hcp, hqq1, hqq2, U8, hp8, hu8, hs8, hf8⟩
              have hS8 : w8.cell? ⟨g1, 3, none⟩ = some (.pointer (some ⟨p1, 0, none⟩)) ∧ w8.cell? ⟨z, 1, none⟩ = some (.int .i64 no) ∧ g1 < w8.heap.size ∧ z < w8.heap.size := ⟨(hf8.cell (p := ⟨g1, 3, none⟩) hSA.2.2.1 (HKk.out g1 (.inl rfl)).2).trans hSA.1, (hf8.cell (p := ⟨z, 1, none⟩) hSA.2.2.2 (HKk.out z (.inr (.inr (.inl rfl)))).2).trans hSA.2.1, Nat.lt_of_lt_of_le hSA.2.2.1 hf8.size, Nat.lt_of_lt_of_le hSA.2.2.2 hf8.size⟩
              refine ⟨_, ?a7gy, rfl, ?b7gy, (fun _ => hS8), ?_⟩
              case b7gy => (simp only [Act.put, List.setIfInBounds_toArray, List.set_cons_zero, List.set_cons_succ]; rfl)
              refine Rg.op 8 (some 106) hS8 (v := ?v8gy) (a' := ?a8gy) (hy := fun wz hwz => ?h8gy) (ha := ?b8gy) (h := ?_)
              case h8gy => (go_simp; try with_reducible rfl)
              case b8gy => (simp only [Act.put, List.setIfInBounds_toArray, List.set_cons_zero, List.set_cons_succ]; rfl)
              refine Rg.op 9 (some 115) hS8 (v := ?v9gy) (a' := ?a9gy) (hy := fun wz hwz => ?h9gy) (ha := ?b9gy) (h := ?_)
              case h9gy => (go_simp; try with_reducible rfl)
              case b9gy => (simp only [Act.put, List.setIfInBounds_toArray, List.set_cons_zero, List.set_cons_succ]; rfl)
              refine Rg.op 10 (some 116) hS8 (v := ?v10gy) (a' := ?a10gy) (hy := fun wz hwz => ?h10gy) (ha := ?b10gy) (h := ?_)
              case h10gy => (go_simp; try with_reducible rfl)
              case b10gy => (simp only [Act.put, List.setIfInBounds_toArray, List.set_cons_zero, List.set_cons_succ]; rfl)
              have hb8 := HBA.out.fr hf8 HUg.out
              have hfE : Fr (fun x => x = gp) w8 (((w8.setCell ⟨gp, 0, none⟩ (.int .i64 q)).setCell ⟨gp, 1, none⟩ (.int .u64 (V' q).lsn)).setCell ⟨gp, 2, none⟩ (.slice (some ⟨qq, 0, none⟩) 480 480)) := (((Fr.refl (fun x => x = gp) w8).setCell (p := ⟨gp, 0, none⟩) (.inr rfl) _).setCell (p := ⟨gp, 1, none⟩) (.inr rfl) _).setCell (p := ⟨gp, 2, none⟩) (.inr rfl) _
              have hbE : Blk (((w8.setCell ⟨gp, 0, none⟩ (.int .i64 q)).setCell ⟨gp, 1, none⟩ (.int .u64 (V' q).lsn)).setCell ⟨gp, 2, none⟩ (.slice (some ⟨qq, 0, none⟩) 480 480)) gp 40 #[.int .i64 q, .int .u64 (V' q).lsn, .slice (some ⟨qq, 0, none⟩) 480 480] := ((hb8.set_ 0 _).set_ 1 _).set_ 2 _
              have hzg : wr.heap.size ≤ gp := by have := HZd.out; have := HGp.out; omega
              have hSE : (((w8.setCell ⟨gp, 0, none⟩ (.int .i64 q)).setCell ⟨gp, 1, none⟩ (.int .u64 (V' q).lsn)).setCell ⟨gp, 2, none⟩ (.slice (some ⟨qq, 0, none⟩) 480 480)).cell? ⟨g1, 3, none⟩ = some (.pointer (some ⟨p1, 0, none⟩)) ∧ (((w8.setCell ⟨gp, 0, none⟩ (.int .i64 q)).setCell ⟨gp, 1, none⟩ (.int .u64 (V' q).lsn)).setCell ⟨gp, 2, none⟩ (.slice (some ⟨qq, 0, none⟩) 480 480)).cell? ⟨z, 1, none⟩ = some (.int .i64 no) ∧ g1 < (((w8.setCell ⟨gp, 0, none⟩ (.int .i64 q)).setCell ⟨gp, 1, none⟩ (.int .u64 (V' q).lsn)).setCell ⟨gp, 2, none⟩ (.slice (some ⟨qq, 0, none⟩) 480 480)).heap.size ∧ z < (((w8.setCell ⟨gp, 0, none⟩ (.int .i64 q)).setCell ⟨gp, 1, none⟩ (.int .u64 (V' q).lsn)).setCell ⟨gp, 2, none⟩ (.slice (some ⟨qq, 0, none⟩) 480 480)).heap.size := ⟨(hfE.cell (p := ⟨g1, 3, none⟩) hS8.2.2.1 (fun e => by have := (HKk.out g1 (.inl rfl)).1; have e : g1 = gp := e; omega)).trans hS8.1, (hfE.cell (p := ⟨z, 1, none⟩) hS8.2.2.2 (fun e => by have := (HKk.out z (.inr (.inr (.inl rfl)))).1; have e : z = gp := e; omega)).trans hS8.2.1, Nat.lt_of_lt_of_le hS8.2.2.1 hfE.size, Nat.lt_of_lt_of_le hS8.2.2.2 hfE.size⟩
              have s0 := hb8.cell 0
              have s1 := hb8.cell 1
              have s2 := hb8.cell 2
              have t0 := hb8.frozen 0
              have t1 := hb8.frozen 1
              have t2 := hb8.frozen 2
              have sz := hb8.lt
              simp only [List.getElem?_toArray, List.getElem?_cons_zero, List.getElem?_cons_succ] at s0 s1 s2
              have HB8 := Lib.hid hb8
              have HBE := Lib.hid hbE
              have HFE := Lib.hid hfE
              clear hb8 hbE hfE
              refine Rg.store 12 (w' := (((w8.setCell ⟨gp, 0, none⟩ (.int .i64 q)).setCell ⟨gp, 1, none⟩ (.int .u64 (V' q).lsn)).setCell ⟨gp, 2, none⟩ (.slice (some ⟨qq, 0, none⟩) 480 480))) (hrun := ?h12gv) (hS := (fun _ => hSE)) (h := ?_)
              case h12gv => (go_simp; try with_reducible rfl)
              refine Rg.op 13 (some 16) hSE (v := ?v13gv) (a' := ?a13gv) (hy := fun wz hwz => ?h13gv) (ha := ?b13gv) (h := ?_)
              case h13gv => (go_simp; try with_reducible rfl)
              case b13gv => (simp only [Act.put, List.setIfInBounds_toArray, List.set_cons_zero, List.set_cons_succ]; rfl)
              refine Rg.done _ (h := ?_)
              have hsz8 := hf8.size
              have hszA := HZA.out
              have hsE := HFE.out.size
              have hu8g : ¬ U8 gp := fun e => by
                rcases hs8 gp e with e | e
                · exact HUg.out e
                · omega
              have hfz : Fr U wr (((w8.setCell ⟨gp, 0, none⟩ (.int .i64 q)).setCell ⟨gp, 1, none⟩ (.int .u64 (V' q).lsn)).setCell ⟨gp, 2, none⟩ (.slice (some ⟨qq, 0, none⟩) 480 480)) := (((HF0.out.mono (fun _ _ h => h.elim) : Fr U wr wd).trans (HFA.out.mono (fun _ _ h => h.elim))).trans hf8).step HFE.out (fun x hx e => by have e : x = gp := e; omega)
              have hpz : PH w (((w8.setCell ⟨gp, 0, none⟩ (.int .i64 q)).setCell ⟨gp, 1, none⟩ (.int .u64 (V' q).lsn)).setCell ⟨gp, 2, none⟩ (.slice (some ⟨qq, 0, none⟩) 480 480)) U8 ⟨g1, d1, f1, l1, p1⟩ ((ka : Int) + 1) V' L' (M + 1 + 1) N' (fun _ => True) := PW.away hp8 HFE.out (fun x hx e => by have e : x = gp := e; subst e; exact hu8g hx) (fun e => by have := (HKk.out g1 (.inl rfl)).1; have e : g1 = gp := e; omega) (fun x e => by have := HPh.out.fr.size; have e : x = gp := e; omega)
              have hpE : Pair w (((w8.setCell ⟨gp, 0, none⟩ (.int .i64 q)).setCell ⟨gp, 1, none⟩ (.int .u64 (V' q).lsn)).setCell ⟨gp, 2, none⟩ (.slice (some ⟨qq, 0, none⟩) 480 480)) (fun x => x = g1 ∨ x = g2 ∨ x = z ∨ x = gp ∨ x = qq) ⟨g1, d1, f1, l1, p1⟩ ⟨g2, d2, f2, l2, p2⟩ ((ka : Int) + 1) ((kb : Int) + 1) V' V' L' L' (M + 1 + 1) (M + 1) N' N' (fun _ => True) (fun _ => True) := HSt.out _ U8 V' L' (M + 1 + 1) N' _ (fun x => x = g1 ∨ x = g2 ∨ x = z ∨ x = gp ∨ x = qq) hpz (fun x hx => (hs8 x hx).imp id (fun e => by omega)) hfz (fun x hx => by
                by_cases h5 : x = gp
                · rw [h5]; exact .inr ⟨hzg, by omega, hu8g⟩
                · by_cases h6 : x = qq
                  · rw [h6]
                    exact .inr ⟨by omega, by omega, hu8⟩
                  · exact .inl (by omega)) (.inl rfl) (.inr (.inl rfl))
              have hcb : BytesIn (((w8.setCell ⟨gp, 0, none⟩ (.int .i64 q)).setCell ⟨gp, 1, none⟩ (.int .u64 (V' q).lsn)).setCell ⟨gp, 2, none⟩ (.slice (some ⟨qq, 0, none⟩) 480 480)) (some ⟨qq, 0, none⟩) (V' q).d := (hcp.fr HFE.out (fun e => by have e : qq = gp := e; omega)).bytes
              try go_wp2
              go_meet
              case rel => exact ⟨gp, qq, rfl, rfl, hpE, HQ1.out.fr hfz (HKk.out z (.inr (.inr (.inl rfl)))).2, HBE.out, hcb⟩
          case rest =>
            obtain ⟨ga, qa, rfl, rfl, hpr, hbz, hba, hqa⟩ := hcut
            have b1 := hbz.out.cell 1
            have bz := hbz.out.lt
            simp only [List.getElem?_toArray, List.getElem?_cons_zero, List.getElem?_cons_succ] at b1
            have gp1 := hpr.out.wb.cp
            have gz1 : g2 < wc.heap.size := cell_lt gp1
            dsimp only at gp1
            have HPr := Lib.hid hpr.out
            have HQ1 := Lib.hid hbz.out
            have HBa := Lib.hid hba.out
            have HQa := Lib.hid hqa.out
            clear hpr hbz hba hqa
            go_upto_region 21 with fail
            go_cut [17, 18] (fun sp se wx => ∃ gp qq : Nat, sp = .pointer (some ⟨gp, 0, none⟩) ∧ se = .int .i64 0 ∧ Hid (Pair w wx (fun x => x = g1 ∨ x = g2 ∨ x = z ∨ x = ga ∨ x = qa ∨ x = gp ∨ x = qq) ⟨g1, d1, f1, l1, p1⟩ ⟨g2, d2, f2, l2, p2⟩ ((ka : Int) + 1) ((kb : Int) + 1) V' V' L' L' (M + 1 + 1) (M + 1 + 1) N' N' (fun _ => True) (fun _ => True)) ∧ Hid (Blk wx z 48 #[.int .i64 kd, .int .i64 no, .int .i64 nn]) ∧ Hid (Blk wx gp 40 #[.int .i64 q, .int .u64 (V' q).lsn, .slice (some ⟨qq, 0, none⟩) 480 480]) ∧ Hid (BytesIn wx (some ⟨qq, 0, none⟩) (V' q).d) ∧ Hid (Blk wx ga 40 #[.int .i64 q, .int .u64 (V' q).lsn, .slice (some ⟨qa, 0, none⟩) 480 480]) ∧ Hid (BytesIn wx (some ⟨qa, 0, none⟩) (V' q).d))
            case first =>
              obtain ⟨U, hph, hK, hstep⟩ := Pair.sndK HPr.out
              have HPh := Lib.hid hph
              have HKk := Lib.hid hK
              have HSt := Lib.hid hstep
              clear hph hK hstep
              go_wp2
              have hS : wc.drew.cell? ⟨g2, 3, none⟩ = some (.pointer (some ⟨p2, 0, none⟩)) ∧ wc.drew.cell? ⟨z, 1, none⟩ = some (.int .i64 no) ∧ g2 < wc.drew.heap.size ∧ z < wc.drew.heap.size := ⟨gp1, b1, gz1, bz⟩
              have hf0 : Fr Nob wc wc.drew := (Fr.refl _ wc).drew
              refine Rg.begin (fun u => u.cell? ⟨g2, 3, none⟩ = some (.pointer (some ⟨p2, 0, none⟩)) ∧ u.cell? ⟨z, 1, none⟩ = some (.int .i64 no) ∧ g2 < u.heap.size ∧ z < u.heap.size) [] (by kernel_rfl) ?_
              refine Rg.op 0 (some 118) hS (v := ?v0h) (a' := ?a0h) (hy := fun wz hwz => ?h0h) (ha := ?b0h) (h := ?_)
              case h0h => (obtain ⟨hx1, hx2, hx3, hx4⟩ := hwz; go_simp; try with_reducible rfl)
              case b0h => (simp only [Act.put, List.setIfInBounds_toArray, List.set_cons_zero, List.set_cons_succ]; rfl)
              refine Rg.op 1 (some 119) hS (v := ?v1h) (a' := ?a1h) (hy := fun wz hwz => ?h1h) (ha := ?b1h) (h := ?_)
              case h1h => (obtain ⟨hx1, hx2, hx3, hx4⟩ := hwz; go_simp; try with_reducible rfl)
              case b1h => (simp only [Act.put, List.setIfInBounds_toArray, List.set_cons_zero, List.set_cons_succ]; rfl)
              refine Rg.op 2 (some 120) hS (v := ?v2h) (a' := ?a2h) (hy := fun wz hwz => ?h2h) (ha := ?b2h) (h := ?_)
              case h2h => (obtain ⟨hx1, hx2, hx3, hx4⟩ := hwz; go_simp; try with_reducible rfl)
              case b2h => (simp only [Act.put, List.setIfInBounds_toArray, List.set_cons_zero, List.set_cons_succ]; rfl)
              refine Rg.op 3 (some 121) hS (v := (.pointer (some ⟨p2, 0, none⟩))) (a' := ?a3h) (hy := fun wz hwz => ?h3h) (ha := ?b3h) (h := ?_)
              case h3h => (obtain ⟨hx1, hx2, hx3, hx4⟩ := hwz; go_simp; try with_reducible rfl)
              case b3h => (simp only [Act.put, List.setIfInBounds_toArray, List.set_cons_zero, List.set_cons_succ]; rfl)
              refine Rg.op 4 (some 122) hS (v := ?v4h) (a' := ?a4h) (hy := fun wz hwz => ?h4h) (ha := ?b4h) (h := ?_)
              case h4h => (obtain ⟨hx1, hx2, hx3, hx4⟩ := hwz; go_simp; try with_reducible rfl)
              case b4h => (simp only [Act.put, List.setIfInBounds_toArray, List.set_cons_zero, List.set_cons_succ]; rfl)
              refine Rg.op 5 (some 123) hS (v := (.int .i64 no)) (a' := ?a5h) (hy := fun wz hwz => ?h5h) (ha := ?b5h) (h := ?_)
              case h5h => (obtain ⟨hx1, hx2, hx3, hx4⟩ := hwz; go_simp; try with_reducible rfl)
              case b5h => (simp only [Act.put, List.setIfInBounds_toArray, List.set_cons_zero, List.set_cons_succ]; rfl)
              refine Rg.op 6 (some 124) hS (v := (.int .i64 q)) (a' := ?a6h) (hy := fun wz hwz => ?h6h) (ha := ?b6h) (h := ?_)
              case h6h => (obtain ⟨hx1, hx2, hx3, hx4⟩ := hwz; have hh := HQ.out; go_simp; try with_reducible rfl)
              case b6h => (simp only [Act.put, List.setIfInBounds_toArray, List.set_cons_zero, List.set_cons_succ]; rfl)
              obtain ⟨wd, hwd⟩ : ∃ W, wc.drew = W := ⟨_, rfl⟩
              rw [hwd] at hS hf0 ⊢
              have hzd : wd.heap.size = wc.heap.size := by rw [← hwd]; rfl
              have HZd := Lib.hid hzd
              have HF0 := Lib.hid hf0
              clear hwd hzd
              refine Rg.fork 7 11 (h1 := ?fah) (h2 := ?fbh)
              case fah =>
                have hget := PH.get (PW.new HPh.out HF0.out) q (by omega) (by omega)
                have HGet := Lib.hid hget
                clear hget
                refine Rg.atCall (some 125) (hrun := ?hah) (hcall := HGet.out) (h := ?_)
                case hah => (go_simp)
                rintro e w8 ⟨qq, rfl, hcp, hqq1, hqq2, U8, hp8, hu8, hs8, hf8⟩
                have hS8 : w8.cell? ⟨g2, 3, none⟩ = some (.pointer (some ⟨p2, 0, none⟩)) ∧ w8.cell? ⟨z, 1, none⟩ = some (.int .i64 no) ∧ g2 < w8.heap.size ∧ z < w8.heap.size := ⟨(hf8.cell (p := ⟨g2, 3, none⟩) hS.2.2.1 (HKk.out g2 (.inr (.inl rfl))).2).trans hS.1, (hf8.cell (p := ⟨z, 1, none⟩) hS.2.2.2 (HKk.out z (.inr (.inr (.inl rfl)))).2).trans hS.2.1, Nat.lt_of_lt_of_le hS.2.2.1 hf8.size, Nat.lt_of_lt_of_le hS.2.2.2 hf8.size⟩
                refine ⟨_, ?aah, rfl, ?bah, (fun _ => hS8), ?_⟩
                case bah => (simp only [Act.put, List.setIfInBounds_toArray, List.set_cons_zero, List.set_cons_succ]; rfl)
                have hfn : Fr Nob w8 (w8.alloc (.cells #[.int .i64 0, .int .u64 0, .slice none 0 0] 40)) := (Fr.refl _ w8).alloc _
                have hfv : Fr Nob w8 (w8.alloc (.cells #[.int .i64 q, .int .u64 (V' q).lsn, .slice (some ⟨qq, 0, none⟩) 480 480] 40)) := (Fr.refl _ w8).alloc _
                have hS9 : (w8.alloc (.cells #[.int .i64 0, .int .u64 0, .slice none 0 0] 40)).cell? ⟨g2, 3, none⟩ = some (.pointer (some ⟨p2, 0, none⟩)) ∧ (w8.alloc (.cells #[.int .i64 0, .int .u64 0, .slice none 0 0] 40)).cell? ⟨z, 1, none⟩ = some (.int .i64 no) ∧ g2 < (w8.alloc (.cells #[.int .i64 0, .int .u64 0, .slice none 0 0] 40)).heap.size ∧ z < (w8.alloc (.cells #[.int .i64 0, .int .u64 0, .slice none 0 0] 40)).heap.size := ⟨(hfn.cell (p := ⟨g2, 3, none⟩) hS8.2.2.1 (fun h => h)).trans hS8.1, (hfn.cell (p := ⟨z, 1, none⟩) hS8.2.2.2 (fun h => h)).trans hS8.2.1, Nat.lt_of_lt_of_le hS8.2.2.1 hfn.size, Nat.lt_of_lt_of_le hS8.2.2.2 hfn.size⟩
                have hS10 : (w8.alloc (.cells #[.int .i64 q, .int .u64 (V' q).lsn, .slice (some ⟨qq, 0, none⟩) 480 480] 40)).cell? ⟨g2, 3, none⟩ = some (.pointer (some ⟨p2, 0, none⟩)) ∧ (w8.alloc (.cells #[.int .i64 q, .int .u64 (V' q).lsn, .slice (some ⟨qq, 0, none⟩) 480 480] 40)).cell? ⟨z, 1, none⟩ = some (.int .i64 no) ∧ g2 < (w8.alloc (.cells #[.int .i64 q, .int .u64 (V' q).lsn, .slice (some ⟨qq, 0, none⟩) 480 480] 40)).heap.size ∧ z < (w8.alloc (.cells #[.int .i64 q, .int .u64 (V' q).lsn, .slice (some ⟨qq, 0, none⟩) 480 480] 40)).heap.size := ⟨(hfv.cell (p := ⟨g2, 3, none⟩) hS8.2.2.1 (fun h => h)).trans hS8.1, (hfv.cell (p := ⟨z, 1, none⟩) hS8.2.2.2 (fun h => h)).trans hS8.2.1, Nat.lt_of_lt_of_le hS8.2.2.1 hfv.size, Nat.lt_of_lt_of_le hS8.2.2.2 hfv.size⟩
                refine Rg.op 8 (some 117) hS8 (v := ?v8hx) (a' := ?a8hx) (hy := fun wz hwz => ?h8hx) (ha := ?b8hx) (h := ?_)
                case h8hx => (go_simp; try with_reducible rfl)
                case b8hx => (simp only [Act.put, List.setIfInBounds_toArray, List.set_cons_zero, List.set_cons_succ]; rfl)
                refine Rg.op 9 (some 126) hS8 (v := ?v9hx) (a' := ?a9hx) (hy := fun wz hwz => ?h9hx) (ha := ?b9hx) (h := ?_)
                case h9hx => (go_simp; try with_reducible rfl)
                case b9hx => (simp only [Act.put, List.setIfInBounds_toArray, List.set_cons_zero, List.set_cons_succ]; rfl)
                refine Rg.op 10 (some 127) hS8 (v := ?v10hx) (a' := ?a10hx) (hy := fun wz hwz => ?h10hx) (ha := ?b10hx) (h := ?_)
                case h10hx => (go_simp; try with_reducible rfl)
                case b10hx => (simp only [Act.put, List.setIfInBounds_toArray, List.set_cons_zero, List.set_cons_succ]; rfl)
                refine Rg.run 11 (some 17) (v := (.pointer (some ⟨w8.heap.size, 0, none⟩))) (a' := ?a11hx) (w' := (w8.alloc (.cells #[.int .i64 0, .int .u64 0, .slice none 0 0] 40))) (hrun := ?h11hx) (ha := ?b11hx) (hS := (fun _ => hS9)) (h := ?_)
                case h11hx => (go_simp; try with_reducible rfl)
                case b11hx => (simp only [Act.put, List.setIfInBounds_toArray, List.set_cons_zero, List.set_cons_succ]; rfl)
                refine Rg.store 12 (w' := (w8.alloc (.cells #[.int .i64 q, .int .u64 (V' q).lsn, .slice (some ⟨qq, 0, none⟩) 480 480] 40))) (hrun := ?h12hx) (hS := (fun _ => hS10)) (h := ?_)
                case h12hx => (go_simp; try with_reducible rfl)
                refine Rg.op 13 (some 18) hS10 (v := ?v13hx) (a' := ?a13hx) (hy := fun wz hwz => ?h13hx) (ha := ?b13hx) (h := ?_)
                case h13hx => (go_simp; try with_reducible rfl)
                case b13hx => (simp only [Act.put, List.setIfInBounds_toArray, List.set_cons_zero, List.set_cons_succ]; rfl)
                refine Rg.done _ (h := ?_)
                have hsz8 := hf8.size
                have hszv : (w8.alloc (.cells #[.int .i64 q, .int .u64 (V' q).lsn, .slice (some ⟨qq, 0, none⟩) 480 480] 40)).heap.size = w8.heap.size + 1 := by simp
                have hpE : Pair w (w8.alloc (.cells #[.int .i64 q, .int .u64 (V' q).lsn, .slice (some ⟨qq, 0, none⟩) 480 480] 40)) (fun x => x = g1 ∨ x = g2 ∨ x = z ∨ x = ga ∨ x = qa ∨ x = w8.heap.size ∨ x = qq) ⟨g1, d1, f1, l1, p1⟩ ⟨g2, d2, f2, l2, p2⟩ ((ka : Int) + 1) ((kb : Int) + 1) V' V' L' L' (M + 1 + 1) (M + 1 + 1) N' N' (fun _ => True) (fun _ => True) := HSt.out _ U8 V' L' (M + 1 + 1) N' _ (fun x => x = g1 ∨ x = g2 ∨ x = z ∨ x = ga ∨ x = qa ∨ x = w8.heap.size ∨ x = qq) (PW.new hp8 hfv) (fun x hx => (hs8 x hx).imp id (fun e => by have := HZd.out; omega)) ((HF0.out.mono (fun _ _ h => h.elim) : Fr U wc wd).trans (hf8.trans (hfv.mono (fun _ _ h => h.elim)))) (fun x hx => by
                  by_cases h5 : x = w8.heap.size
                  · refine .inr ⟨by have := HZd.out; omega, by omega, fun e => ?_⟩
                    have := hp8.lo x e; omega
                  · by_cases h6 : x = qq
                    · rw [h6]
                      exact .inr ⟨by have := HZd.out; omega, by omega, hu8⟩
                    · exact .inl (by omega)) (.inl rfl) (.inr (.inl rfl))
                have hfz : Fr U wc (w8.alloc (.cells #[.int .i64 q, .int .u64 (V' q).lsn, .slice (some ⟨qq, 0, none⟩) 480 480] 40)) := (HF0.out.mono (fun _ _ h => h.elim) : Fr U wc wd).trans (hf8.trans (hfv.mono (fun _ _ h => h.elim)))
                have hcb : BytesIn (w8.alloc (.cells #[.int .i64 q, .int .u64 (V' q).lsn, .slice (some ⟨qq, 0, none⟩) 480 480] 40)) (some ⟨qq, 0, none⟩) (V' q).d := hcp.bytes.new hfv
                try go_wp2
                go_meet
                case rel => exact ⟨_, qq, rfl, rfl, hpE, HQ1.out.fr hfz (HKk.out z (.inr (.inr (.inl rfl)))).2, Blk.new _ _ _, hcb, HBa.out.fr hfz (HKk.out ga (.inr (.inr (.inr (.inl rfl))))).2, HQa.out.fr hfz (fun a ha => by injection ha with ha; subst ha; exact (HKk.out qa (.inr (.inr (.inr (.inr rfl))))).2)⟩
              case fbh =>
                obtain ⟨gp, hgp⟩ : ∃ x, wd.heap.size = x := ⟨_, rfl⟩
                have hfA : Fr Nob wd (wd.alloc (.cells #[.int .i64 0, .int .u64 0, .slice none 0 0] 40)) := (Fr.refl _ wd).alloc _
                have hzA : (wd.alloc (.cells #[.int .i64 0, .int .u64 0, .slice none 0 0] 40)).heap.size = gp + 1 := by simp [hgp]
                have hbA : Blk (wd.alloc (.cells #[.int .i64 0, .int .u64 0, .slice none 0 0] 40)) gp 40 #[.int .i64 0, .int .u64 0, .slice none 0 0] := by rw [← hgp]; exact Blk.new _ _ _
                have hSA : (wd.alloc (.cells #[.int .i64 0, .int .u64 0, .slice none 0 0] 40)).cell? ⟨g2, 3, none⟩ = some (.pointer (some ⟨p2, 0, none⟩)) ∧ (wd.alloc (.cells #[.int .i64 0, .int .u64 0, .slice none 0 0] 40)).cell? ⟨z, 1, none⟩ = some (.int .i64 no) ∧ g2 < (wd.alloc (.cells #[.int .i64 0, .int .u64 0, .slice none 0 0] 40)).heap.size ∧ z < (wd.alloc (.cells #[.int .i64 0, .int .u64 0, .slice none 0 0] 40)).heap.size := ⟨(hfA.cell (p := ⟨g2, 3, none⟩) hS.2.2.1 (fun h => h)).trans hS.1, (hfA.cell (p := ⟨z, 1, none⟩) hS.2.2.2 (fun h => h)).trans hS.2.1, Nat.lt_of_lt_of_le hS.2.2.1 hfA.size, Nat.lt_of_lt_of_le hS.2.2.2 hfA.size⟩
                refine Rg.atRun (some 17) (v := .pointer (some ⟨wd.heap.size, 0, none⟩)) (a' := ?ach) (w' := wd.alloc (.cells #[.int .i64 0, .int .u64 0, .slice none 0 0] 40)) (hrun := ?hch) (ha := ?bch) (h := ⟨fun _ => hSA, ?_⟩)
                case hch => (go_simp; try with_reducible rfl)
                case bch => (simp only [Act.put, List.setIfInBounds_toArray, List.set_cons_zero, List.set_cons_succ]; rfl)
                obtain ⟨wA, hwA⟩ : ∃ W, wd.alloc (.cells #[.int .i64 0, .int .u64 0, .slice none 0 0] 40) = W := ⟨_, rfl⟩
                rw [hwA] at hfA hzA hbA hSA ⊢
                rw [hgp]
                have HGp := Lib.hid hgp
                have HZA := Lib.hid hzA
                have HBA := Lib.hid hbA
                have HFA := Lib.hid hfA
                have HUg : Hid (¬ U gp) := fun e => by have := HPh.out.lo _ e; have := HZd.out; have := HGp.out; omega
                clear hwA hgp hzA hbA hfA
                have hget := PH.get (PW.new HPh.out (HF0.out.trans HFA.out)) q (by omega) (by omega)
                have HGet := Lib.hid hget
                clear hget
                refine Rg.call 7 (some 125) (hrun := ?h7hy) (hcall := HGet.out) (h := ?_)
                case h7hy => (go_simp)
                rintro e w8 ⟨qq, rfl, hcp, hqq1, hqq2, U8, hp8, hu8, hs8, hf8⟩
                have hS8 : w8.cell? ⟨g2, 3, none⟩ = some (.pointer (some ⟨p2, 0, none⟩)) ∧ w8.cell? ⟨z, 1, none⟩ = some (.int .i64 no) ∧ g2 < w8.heap.size ∧ z < w8.heap.size := ⟨(hf8.cell (p := ⟨g2, 3, none⟩) hSA.2.2.1 (HKk.out g2 (.inr (.inl rfl))).2).trans hSA.1, (hf8.cell (p := ⟨z, 1, none⟩) hSA.2.2.2 (HKk.out z (.inr (.inr (.inl rfl)))).2).trans hSA.2.1, Nat.lt_of_lt_of_le hSA.2.2.1 hf8.size, Nat.lt_of_lt_of_le hSA.2.2.2 hf8.size⟩
                refine ⟨_, ?a7hy, rfl, ?b7hy, (fun _ => hS8), ?_⟩
                case b7hy => (simp only [Act.put, List.setIfInBounds_toArray, List.set_cons_zero, List.set_cons_succ]; rfl)
                refine Rg.op 8 (some 117) hS8 (v := ?v8hy) (a' := ?a8hy) (hy := fun wz hwz => ?h8hy) (ha := ?b8hy) (h := ?_)
                case h8hy => (go_simp; try with_reducible rfl)
                case b8hy => (simp only [Act.put, List.setIfInBounds_toArray, List.set_cons_zero, List.set_cons_succ]; rfl)
                refine Rg.op 9 (some 126) hS8 (v := ?v9hy) (a' := ?a9hy) (hy := fun wz hwz => ?h9hy) (ha := ?b9hy) (h := ?_)
                case h9hy => (go_simp; try with_reducible rfl)
                case b9hy => (simp only [Act.put, List.setIfInBounds_toArray, List.set_cons_zero, List.set_cons_succ]; rfl)
                refine Rg.op 10 (some 127) hS8 (v := ?v10hy) (a' := ?a10hy) (hy := fun wz hwz => ?h10hy) (ha := ?b10hy) (h := ?_)
                case h10hy => (go_simp; try with_reducible rfl)
                case b10hy => (simp only [Act.put, List.setIfInBounds_toArray, List.set_cons_zero, List.set_cons_succ]; rfl)
                have hb8 := HBA.out.fr hf8 HUg.out
                have hfE : Fr (fun x => x = gp) w8 (((w8.setCell ⟨gp, 0, none⟩ (.int .i64 q)).setCell ⟨gp, 1, none⟩ (.int .u64 (V' q).lsn)).setCell ⟨gp, 2, none⟩ (.slice (some ⟨qq, 0, none⟩) 480 480)) := (((Fr.refl (fun x => x = gp) w8).setCell (p := ⟨gp, 0, none⟩) (.inr rfl) _).setCell (p := ⟨gp, 1, none⟩) (.inr rfl) _).setCell (p := ⟨gp, 2, none⟩) (.inr rfl) _
                have hbE : Blk (((w8.setCell ⟨gp, 0, none⟩ (.int .i64 q)).setCell ⟨gp, 1, none⟩ (.int .u64 (V' q).lsn)).setCell ⟨gp, 2, none⟩ (.slice (some ⟨qq, 0, none⟩) 480 480)) gp 40 #[.int .i64 q, .int .u64 (V' q).lsn, .slice (some ⟨qq, 0, none⟩) 480 480] := ((hb8.set_ 0 _).set_ 1 _).set_ 2 _
                have hzg : wc.heap.size ≤ gp := by have := HZd.out; have := HGp.out; omega
                have hSE : (((w8.setCell ⟨gp, 0, none⟩ (.int .i64 q)).setCell ⟨gp, 1, none⟩ (.int .u64 (V' q).lsn)).setCell ⟨gp, 2, none⟩ (.slice (some ⟨qq, 0, none⟩) 480 480)).cell? ⟨g2, 3, none⟩ = some (.pointer (some ⟨p2, 0, none⟩)) ∧ (((w8.setCell ⟨gp, 0, none⟩ (.int .i64 q)).setCell ⟨gp, 1, none⟩ (.int .u64 (V' q).lsn)).setCell ⟨gp, 2, none⟩ (.slice (some ⟨qq, 0, none⟩) 480 480)).cell? ⟨z, 1, none⟩ = some (.int .i64 no) ∧ g2 < (((w8.setCell ⟨gp, 0, none⟩ (.int .i64 q)).setCell ⟨gp, 1, none⟩ (.int .u64 (V' q).lsn)).setCell ⟨gp, 2, none⟩ (.slice (some ⟨qq, 0, none⟩) 480 480)).heap.size ∧ z < (((w8.setCell ⟨gp, 0, none⟩ (.int .i64 q)).setCell ⟨gp, 1, none⟩ (.int .u64 (V' q).lsn)).setCell ⟨gp, 2, none⟩ (.slice (some ⟨qq, 0, none⟩) 480 480)).heap.size := ⟨(hfE.cell (p := ⟨g2, 3, none⟩) hS8.2.2.1 (fun e => by have := (HKk.out g2 (.inr (.inl rfl))).1; have e : g2 = gp := e; omega)).trans hS8.1, (hfE.cell (p := ⟨z, 1, none⟩) hS8.2.2.2 (fun e => by have := (HKk.out z (.inr (.inr (.inl rfl)))).1; have e : z = gp := e; omega)).trans hS8.2.1, Nat.lt_of_lt_of_le hS8.2.2.1 hfE.size, Nat.lt_of_lt_of_le hS8.2.2.2 hfE.size⟩
                have s0 := hb8.cell 0
                have s1 := hb8.cell 1
                have s2 := hb8.cell 2
                have t0 := hb8.frozen 0
                have t1 := hb8.frozen 1
                have t2 := hb8.frozen 2
                have sz := hb8.lt
                simp only [List.getElem?_toArray, List.getElem?_cons_zero, List.getElem?_cons_succ] at s0 s1 s2
                have HB8 := Lib.hid hb8
                have HBE := Lib.hid hbE
                have HFE := Lib.hid hfE
                clear hb8 hbE hfE
                refine Rg.store 12 (w' := (((w8.setCell ⟨gp, 0, none⟩ (.int .i64 q)).setCell ⟨gp, 1, none⟩ (.int .u64 (V' q).lsn)).setCell ⟨gp, 2, none⟩ (.slice (some ⟨qq, 0, none⟩) 480 480))) (hrun := ?h12hv) (hS := (fun _ => hSE)) (h := ?_)
                case h12hv => (go_simp; try with_reducible rfl)
                refine Rg.op 13 (some 18) hSE (v := ?v13hv) (a' := ?a13hv) (hy := fun wz hwz => ?h13hv) (ha := ?b13hv) (h := ?_)
                case h13hv => (go_simp; try with_reducible rfl)
                case b13hv => (simp only [Act.put, List.setIfInBounds_toArray, List.set_cons_zero, List.set_cons_succ]; rfl)
                refine Rg.done _ (h := ?_)
                have hsz8 := hf8.size
                have hszA := HZA.out
                have hsE := HFE.out.size
                have hu8g : ¬ U8 gp := fun e => by
                  rcases hs8 gp e with e | e
                  · exact HUg.out e
                  · omega
                have hfz : Fr U wc (((w8.setCell ⟨gp, 0, none⟩ (.int .i64 q)).setCell ⟨gp, 1, none⟩ (.int .u64 (V' q).lsn)).setCell ⟨gp, 2, none⟩ (.slice (some ⟨qq, 0, none⟩) 480 480)) := (((HF0.out.mono (fun _ _ h => h.elim) : Fr U wc wd).trans (HFA.out.mono (fun _ _ h => h.elim))).trans hf8).step HFE.out (fun x hx e => by have e : x = gp := e; omega)
                have hpz : PH w (((w8.setCell ⟨gp, 0, none⟩ (.int .i64 q)).setCell ⟨gp, 1, none⟩ (.int .u64 (V' q).lsn)).setCell ⟨gp, 2, none⟩ (.slice (some ⟨qq, 0, none⟩) 480 480)) U8 ⟨g2, d2, f2, l2, p2⟩ ((kb : Int) + 1) V' L' (M + 1 + 1) N' (fun _ => True) := PW.away hp8 HFE.out (fun x hx e => by have e : x = gp := e; subst e; exact hu8g hx) (fun e => by have := (HKk.out g2 (.inr (.inl rfl))).1; have e : g2 = gp := e; omega) (fun x e => by have := HPh.out.fr.size; have e : x = gp := e; omega)
                have hpE : Pair w (((w8.setCell ⟨gp, 0, none⟩ (.int .i64 q)).setCell ⟨gp, 1, none⟩ (.int .u64 (V' q).lsn)).setCell ⟨gp, 2, none⟩ (.slice (some ⟨qq, 0, none⟩) 480 480)) (fun x => x = g1 ∨ x = g2 ∨ x = z ∨ x = ga ∨ x = qa ∨ x = gp ∨ x = qq) ⟨g1, d1, f1, l1, p1⟩ ⟨g2, d2, f2, l2, p2⟩ ((ka : Int) + 1) ((kb : Int) + 1) V' V' L' L' (M + 1 + 1) (M + 1 + 1) N' N' (fun _ => True) (fun _ => True) := HSt.out _ U8 V' L' (M + 1 + 1) N' _ (fun x => x = g1 ∨ x = g2 ∨ x = z ∨ x = ga ∨ x = qa ∨ x = gp ∨ x = qq) hpz (fun x hx => (hs8 x hx).imp id (fun e => by omega)) hfz (fun x hx => by
                  by_cases h5 : x = gp
                  · rw [h5]; exact .inr ⟨hzg, by omega, hu8g⟩
                  · by_cases h6 : x = qq
                    · rw [h6]
                      exact .inr ⟨by omega, by omega, hu8⟩
                    · exact .inl (by omega)) (.inl rfl) (.inr (.inl rfl))
                have hcb : BytesIn (((w8.setCell ⟨gp, 0, none⟩ (.int .i64 q)).setCell ⟨gp, 1, none⟩ (.int .u64 (V' q).lsn)).setCell ⟨gp, 2, none⟩ (.slice (some ⟨qq, 0, none⟩) 480 480)) (some ⟨qq, 0, none⟩) (V' q).d := (hcp.fr HFE.out (fun e => by have e : qq = gp := e; omega)).bytes
                try go_wp2
                go_meet
                case rel => exact ⟨gp, qq, rfl, rfl, hpE, HQ1.out.fr hfz (HKk.out z (.inr (.inr (.inl rfl)))).2, HBE.out, hcb, HBa.out.fr hfz (HKk.out ga (.inr (.inr (.inr (.inl rfl))))).2, HQa.out.fr hfz (fun a ha => by injection ha with ha; subst ha; exact (HKk.out qa (.inr (.inr (.inr (.inr rfl))))).2)⟩
            case rest =>
              obtain ⟨gb, qb, rfl, rfl, hpr, hbz, hbb, hqb, hba, hqa⟩ := hcut
              have hdl : (V' q).d.length = 480 := by
                obtain ⟨U1, U2, h1, _⟩ := hpr.out
                exact (h1.ok.vok q (by omega)).1.d
              have y1 := conv_in hqa.out 480
              have y2 := conv_in hqb.out 480
              rw [hdl] at y1 y2
              have ca1 := hba.out.cell 1
              have ca2 := hba.out.cell 2
              have caz := hba.out.lt
              have cb1 := hbb.out.cell 1
              have cb2 := hbb.out.cell 2
              have cbz := hbb.out.lt
              simp only [List.getElem?_toArray, List.getElem?_cons_zero, List.getElem?_cons_succ] at ca1 ca2 cb1 cb2
              have hpl := hpr.out.less (fun x => x = g1 ∨ x = g2) (fun x hx => by omega) (.inl rfl) (.inr rfl)
              have HPl := Lib.hid hpl
              clear hpr hbz hbb hqb hba hqa hdl hpl
              go_wp2
              go_roundw
              case rel => exact ⟨i + 1, M + 1 + 1, N', V', L', by omega, by omega, by omega, by omega, by omega, by omega, by go_num, HPl.out⟩
              case measure => simp [intOf]; omega
    · rcases (by omega : ¬ (i : Int) < (n : Int) ∨ ((i : Int) < (n : Int) ∧ ¬ (i : Int) < 40)) with hlt | ⟨hlt, hlt40⟩
      · obtain ⟨U, hph, hK, hstep⟩ := Pair.fst HPi.out
        have hfl := PH.flush hph (by omega)
        have HFl := Lib.hid hfl
        have HSt := Lib.hid hstep
        have gp1 := HPi.out.wa.cp
        have gz1 : g1 < wr.heap.size := cell_lt gp1
        dsimp only at gp1
        clear hph hK hstep hfl
        go_wp2_with fail
        refine HFl.out.mono ?_
        rintro e w5 ⟨rfl, hn5⟩
        have hp5 := HSt.out _ _ _ _ _ _ hn5
        obtain ⟨U', hph, hK, hstep⟩ := Pair.snd hp5
        have hfl := PH.flush hph (by omega)
        have HFl2 := Lib.hid hfl
        have HSt2 := Lib.hid hstep
        have gp2 := hp5.wb.cp
        have gz2 : g2 < w5.heap.size := cell_lt gp2
        dsimp only at gp2
        clear hph hK hstep hfl hn5 hp5 HSt HFl
        go_wp2_with fail
        refine HFl2.out.mono ?_
        rintro e w6 ⟨rfl, hn6⟩
        have hp6 := HSt2.out _ _ _ _ _ _ hn6
        have HP6 := Lib.hid hp6
        clear hn6 hp6 HSt2 HFl2 gp1 gz1 gp2 gz2
        go_wp2
        go_loopw [19, 21, 23] (fun s19 _ _ wk => ∃ k : Nat, k ≤ 8 ∧ s19 = .int .i64 k ∧ Hid (Pair w wk (fun x => x = g1 ∨ x = g2) ⟨g1, d1, f1, l1, p1⟩ ⟨g2, d2, f2, l2, p2⟩ ((ka : Int) + 1) ((kb : Int) + 1) V V L L (M + 8) (M + 8) N N (fun _ => False) (fun _ => False))) (fun s19 _ _ _ => 8 - (intOf s19).toNat)
        case atStart => exact ⟨0, by omega, rfl, HP6.out⟩
        case round =>
          obtain ⟨k, hk, rfl, hpk⟩ := hrel
          by_cases hk8 : k < 8
          · have hk8I : (k : Int) < 8 := by omega
            have hrd : Calls Tryz.prog 15 #[.pointer (some ⟨f1, 0, none⟩), .int .i64 k] wr fun e w' => ∃ g o, e = .returned (.tuple #[.agg #[.int .i64 k, .int .u64 (V k).lsn, .slice (some ⟨g, o, none⟩) 480 480], .int .i64 0]) ∧ BytesIn w' (some ⟨g, o, none⟩) (V k).d ∧ wr.heap.size ≤ g ∧ Fr Nob wr w' := by
              obtain ⟨U1, U2, h1, h2, _⟩ := hpk.out
              exact h1.ok.read k hk8
            have hdl : (V k).d.length = 480 := by
              obtain ⟨U1, U2, h1, h2, _⟩ := hpk.out
              exact (h1.ok.vok k hk8).1.d
            have HDl := Lib.hid hdl
            have HRd := Lib.hid hrd
            have gf1 := hpk.out.wa.cf
            have gz1 : g1 < wr.heap.size := cell_lt gf1
            dsimp only at gf1
            have HPk := Lib.hid hpk.out
            clear hrd hdl hpk
            go_wp2_with fail
            refine HRd.out.mono ?_
            rintro e w7 ⟨ga, oa, rfl, hba, _, hf7⟩
            have hga : ga < w7.heap.size := by
              obtain ⟨g', o', e, hc⟩ := hba (by rw [HDl.out]; omega)
              injection e with e
              injection e with e1 e2
              subst e1
              have hx : (V k).d[0]? = some ((V k).d[0]'(by rw [HDl.out]; omega)) := List.getElem?_eq_getElem _
              exact cell_lt (hc 0 _ hx)
            have HBa := Lib.hid hba
            have HF7 := Lib.hid hf7
            have HP7 := Lib.hid (HPk.out.new hf7)
            obtain ⟨z, hz⟩ : ∃ z, w7.heap.size = z := ⟨_, rfl⟩
            have hfa : Fr Nob w7 (w7.alloc (.cells #[.int .i64 k, .int .u64 (V k).lsn, .slice (some ⟨ga, oa, none⟩) 480 480] 40)) := (Fr.refl _ w7).alloc _
            have hbl : Blk (w7.alloc (.cells #[.int .i64 k, .int .u64 (V k).lsn, .slice (some ⟨ga, oa, none⟩) 480 480] 40)) z 40 #[.int .i64 k, .int .u64 (V k).lsn, .slice (some ⟨ga, oa, none⟩) 480 480] := by rw [← hz]; exact Blk.new _ _ _
            have HP8 := Lib.hid (HP7.out.new hfa)
            have HBa8 := Lib.hid (HBa.out.new hfa)
            obtain ⟨w8, hw8⟩ : ∃ W, w7.alloc (.cells #[.int .i64 k, .int .u64 (V k).lsn, .slice (some ⟨ga, oa, none⟩) 480 480] 40) = W := ⟨_, rfl⟩
            rw [hw8] at hbl HP8 HBa8
            have hrd : Calls Tryz.prog 15 #[.pointer (some ⟨f2, 0, none⟩), .int .i64 k] w8 fun e w' => ∃ g o, e = .returned (.tuple #[.agg #[.int .i64 k, .int .u64 (V k).lsn, .slice (some ⟨g, o, none⟩) 480 480], .int .i64 0]) ∧ BytesIn w' (some ⟨g, o, none⟩) (V k).d ∧ w8.heap.size ≤ g ∧ Fr Nob w8 w' := by
              obtain ⟨U1, U2, h1, h2, _⟩ := HP8.out
              exact h2.ok.read k hk8
            have HRd2 := Lib.hid hrd
            have gf2 := HP8.out.wb.cf
            have gz2 : g2 < w8.heap.size := cell_lt gf2
            dsimp only at gf2
            have HBl := Lib.hid hbl
            clear hba hf7 hfa hbl hrd HRd gf1 gz1
            go_wp2_with fail
            try rw [hw8]
            try rw [hz]
            clear hw8 hz
            refine HRd2.out.mono ?_
            rintro e w9 ⟨gb, ob, rfl, hbb, _, hf9⟩
            have hfb : Fr Nob w9 (w9.alloc (.cells #[.int .i64 k, .int .u64 (V k).lsn, .slice (some ⟨gb, ob, none⟩) 480 480] 40)) := (Fr.refl _ w9).alloc _
            obtain ⟨zb, hzb⟩ : ∃ z, w9.heap.size = z := ⟨_, rfl⟩
            have hbl2 : Blk (w9.alloc (.cells #[.int .i64 k, .int .u64 (V k).lsn, .slice (some ⟨gb, ob, none⟩) 480 480] 40)) zb 40 #[.int .i64 k, .int .u64 (V k).lsn, .slice (some ⟨gb, ob, none⟩) 480 480] := by rw [← hzb]; exact Blk.new _ _ _
            have hbl1 := (HBl.out.fr hf9 (fun h => h)).fr hfb (fun h => h)
            have y1 := conv_in ((HBa8.out.new hf9).new hfb) 480
            have y2 := conv_in (hbb.new hfb) 480
            rw [HDl.out] at y1 y2
            have hp9 := (HP8.out.new hf9).new hfb
            have HP9 := Lib.hid hp9
            obtain ⟨wE, hwE⟩ : ∃ W, w9.alloc (.cells #[.int .i64 k, .int .u64 (V k).lsn, .slice (some ⟨gb, ob, none⟩) 480 480] 40) = W := ⟨_, rfl⟩
            rw [hwE] at hbl1 hbl2 y1 y2 HP9
            have ca1 := hbl1.cell 1
            have ca2 := hbl1.cell 2
            have caz := hbl1.lt
            have cb1 := hbl2.cell 1
            have cb2 := hbl2.cell 2
            have cbz := hbl2.lt
            simp only [List.getElem?_toArray, List.getElem?_cons_zero, List.getElem?_cons_succ] at ca1 ca2 cb1 cb2
            clear hbb hf9 hfb hbl1 hbl2 hp9 HRd2 gf2 gz2
            go_upto_region 31 with fail
            try rw [hwE]
            try rw [hzb]
            clear hwE hzb
            go_wp2
            go_roundw
            case rel => exact ⟨k + 1, by omega, by go_num, HP9.out⟩
            case measure => simp [intOf]; omega
          · obtain rfl : k = 8 := by omega
            have HP9 := Lib.hid hpk.out.fr0
            clear hpk
            go_wp2_with fail
            refine (HAw.out _).mono ?_
            rintro e w8 ⟨rfl, hf8⟩
            go_wp2_with fail
            go_ret
            exact ⟨rfl, HP9.out.trans hf8⟩
      · obtain ⟨U, hph, hK, hstep⟩ := Pair.fst HPi.out
        have hfl := PH.flush hph (by omega)
        have HFl := Lib.hid hfl
        have HSt := Lib.hid hstep
        have gp1 := HPi.out.wa.cp
        have gz1 : g1 < wr.heap.size := cell_lt gp1
        dsimp only at gp1
        clear hph hK hstep hfl
        go_wp2_with fail
        refine HFl.out.mono ?_
        rintro e w5 ⟨rfl, hn5⟩
        have hp5 := HSt.out _ _ _ _ _ _ hn5
        obtain ⟨U', hph, hK, hstep⟩ := Pair.snd hp5
        have hfl := PH.flush hph (by omega)
        have HFl2 := Lib.hid hfl
        have HSt2 := Lib.hid hstep
        have gp2 := hp5.wb.cp
        have gz2 : g2 < w5.heap.size := cell_lt gp2
        dsimp only at gp2
        clear hph hK hstep hfl hn5 hp5 HSt HFl
        go_wp2_with fail
        refine HFl2.out.mono ?_
        rintro e w6 ⟨rfl, hn6⟩
        have hp6 := HSt2.out _ _ _ _ _ _ hn6
        have HP6 := Lib.hid hp6
        clear hn6 hp6 HSt2 HFl2 gp1 gz1 gp2 gz2
        go_wp2
        go_loopw [19, 21, 23] (fun s19 _ _ wk => ∃ k : Nat, k ≤ 8 ∧ s19 = .int .i64 k ∧ Hid (Pair w wk (fun x => x = g1 ∨ x = g2) ⟨g1, d1, f1, l1, p1⟩ ⟨g2, d2, f2, l2, p2⟩ ((ka : Int) + 1) ((kb : Int) + 1) V V L L (M + 8) (M + 8) N N (fun _ => False) (fun _ => False))) (fun s19 _ _ _ => 8 - (intOf s19).toNat)
        case atStart => exact ⟨0, by omega, rfl, HP6.out⟩
        case round =>
          obtain ⟨k, hk, rfl, hpk⟩ := hrel
          by_cases hk8 : k < 8
          · have hk8I : (k : Int) < 8 := by omega
            have hrd : Calls Tryz.prog 15 #[.pointer (some ⟨f1, 0, none⟩), .int .i64 k] wr fun e w' => ∃ g o, e = .returned (.tuple #[.agg #[.int .i64 k, .int .u64 (V k).lsn, .slice (some ⟨g, o, none⟩) 480 480], .int .i64 0]) ∧ BytesIn w' (some ⟨g, o, none⟩) (V k).d ∧ wr.heap.size ≤ g ∧ Fr Nob wr w' := by
              obtain ⟨U1, U2, h1, h2, _⟩ := hpk.out
              exact h1.ok.read k hk8
            have hdl : (V k).d.length = 480 := by
              obtain ⟨U1, U2, h1, h2, _⟩ := hpk.out
              exact (h1.ok.vok k hk8).1.d
            have HDl := Lib.hid hdl
            have HRd := Lib.hid hrd
            have gf1 := hpk.out.wa.cf
            have gz1 : g1 < wr.heap.size := cell_lt gf1
            dsimp only at gf1
            have HPk := Lib.hid hpk.out
            clear hrd hdl hpk
            go_wp2_with fail
            refine HRd.out.mono ?_
            rintro e w7 ⟨ga, oa, rfl, hba, _, hf7⟩
            have hga : ga < w7.heap.size := by
              obtain ⟨g', o', e, hc⟩ := hba (by rw [HDl.out]; omega)
              injection e with e
              injection e with e1 e2
              subst e1
              have hx : (V k).d[0]? = some ((V k).d[0]'(by rw [HDl.out]; omega)) := List.getElem?_eq_getElem _
              exact cell_lt (hc 0 _ hx)
            have HBa := Lib.hid hba
            have HF7 := Lib.hid hf7
            have HP7 := Lib.hid (HPk.out.new hf7)
            obtain ⟨z, hz⟩ : ∃ z, w7.heap.size = z := ⟨_, rfl⟩
            have hfa : Fr Nob w7 (w7.alloc (.cells #[.int .i64 k, .int .u64 (V k).lsn, .slice (some ⟨ga, oa, none⟩) 480 480] 40)) := (Fr.refl _ w7).alloc _
            have hbl : Blk (w7.alloc (.cells #[.int .i64 k, .int .u64 (V k).lsn, .slice (some ⟨ga, oa, none⟩) 480 480] 40)) z 40 #[.int .i64 k, .int .u64 (V k).lsn, .slice (some ⟨ga, oa, none⟩) 480 480] := by rw [← hz]; exact Blk.new _ _ _
            have HP8 := Lib.hid (HP7.out.new hfa)
            have HBa8 := Lib.hid (HBa.out.new hfa)
            obtain ⟨w8, hw8⟩ : ∃ W, w7.alloc (.cells #[.int .i64 k, .int .u64 (V k).lsn, .slice (some ⟨ga, oa, none⟩) 480 480] 40) = W := ⟨_, rfl⟩
            rw [hw8] at hbl HP8 HBa8
            have hrd : Calls Tryz.prog 15 #[.pointer (some ⟨f2, 0, none⟩), .int .i64 k] w8 fun e w' => ∃ g o, e = .returned (.tuple #[.agg #[.int .i64 k, .int .u64 (V k).lsn, .slice (some ⟨g, o, none⟩) 480 480], .int .i64 0]) ∧ BytesIn w' (some ⟨g, o, none⟩) (V k).d ∧ w8.heap.size ≤ g ∧ Fr Nob w8 w' := by
              obtain ⟨U1, U2, h1, h2, _⟩ := HP8.out
              exact h2.ok.read k hk8
            have HRd2 := Lib.hid hrd
            have gf2 := HP8.out.wb.cf
            have gz2 : g2 < w8.heap.size := cell_lt gf2
            dsimp only at gf2
            have HBl := Lib.hid hbl
            clear hba hf7 hfa hbl hrd HRd gf1 gz1
            go_wp2_with fail
            try rw [hw8]
            try rw [hz]
            clear hw8 hz
            refine HRd2.out.mono ?_
            rintro e w9 ⟨gb, ob, rfl, hbb, _, hf9⟩
            have hfb : Fr Nob w9 (w9.alloc (.cells #[.int .i64 k, .int .u64 (V k).lsn, .slice (some ⟨gb, ob, none⟩) 480 480] 40)) := (Fr.refl _ w9).alloc _
            obtain ⟨zb, hzb⟩ : ∃ z, w9.heap.size = z := ⟨_, rfl⟩
            have hbl2 : Blk (w9.alloc (.cells #[.int .i64 k, .int .u64 (V k).lsn, .slice (some ⟨gb, ob, none⟩) 480 480] 40)) zb 40 #[.int .i64 k, .int .u64 (V k).lsn, .slice (some ⟨gb, ob, none⟩) 480 480] := by rw [← hzb]; exact Blk.new _ _ _
            have hbl1 := (HBl.out.fr hf9 (fun h => h)).fr hfb (fun h => h)
            have y1 := conv_in ((HBa8.out.new hf9).new hfb) 480
            have y2 := conv_in (hbb.new hfb) 480
            rw [HDl.out] at y1 y2
            have hp9 := (HP8.out.new hf9).new hfb
            have HP9 := Lib.hid hp9
            obtain ⟨wE, hwE⟩ : ∃ W, w9.alloc (.cells #[.int .i64 k, .int .u64 (V k).lsn, .slice (some ⟨gb, ob, none⟩) 480 480] 40) = W := ⟨_, rfl⟩
            rw [hwE] at hbl1 hbl2 y1 y2 HP9
            have ca1 := hbl1.cell 1
            have ca2 := hbl1.cell 2
            have caz := hbl1.lt
            have cb1 := hbl2.cell 1
            have cb2 := hbl2.cell 2
            have cbz := hbl2.lt
            simp only [List.getElem?_toArray, List.getElem?_cons_zero, List.getElem?_cons_succ] at ca1 ca2 cb1 cb2
            clear hbb hf9 hfb hbl1 hbl2 hp9 HRd2 gf2 gz2
            go_upto_region 31 with fail
            try rw [hwE]
            try rw [hzb]
            clear hwE hzb
            go_wp2
            go_roundw
            case rel => exact ⟨k + 1, by omega, by go_num, HP9.out⟩
            case measure => simp [intOf]; omega
          · obtain rfl : k = 8 := by omega
            have HP9 := Lib.hid hpk.out.fr0
            clear hpk
            go_wp2_with fail
            refine (HAw.out _).mono ?_
            rintro e w8 ⟨rfl, hf8⟩
            go_wp2_with fail
            go_ret
            exact ⟨rfl, HP9.out.trans hf8⟩
end Go.Proofs.YtccmmnacejdeoaaGreatDoor
