/-
  PoolAwake, PoolBounds, in one text.
-/
import Derived.Test.YtccmmnacejdeoaaGreatDoorMg33
import Derived.Test.YtccmmnacejdeoaaGreatDoorMg32
import Derived.Lib.SlBytesConst
import Derived.Test.YtccmmnacejdeoaaGreatDoorMg05
import Derived.Deep.DeepCutAuto
/-
  awake of the statements on pools.
-/
namespace Go.Proofs.YtccmmnacejdeoaaGreatDoor
set_option linter.unusedSimpArgs false
set_option linter.unusedVariables false
open Go.RowKit Go.Maps

theorem len_ints5 (w : World) (A : Option Addr) (n c : Nat) : (Builtin.len_ #[55] 3 #[Value.slice A n c]).run Tryz.prog w = .ok (.int .i64 n) w := by go_simp
set_option maxHeartbeats 6400000 in
set_option maxRecDepth 100000 in
theorem awake5_any (w : World) : Calls Tryz.prog 11 #[] w fun e w' => e = .returned (.bool true) ∧ Fr Nob w w' := by
  have qL := len_ints5
  have kc := fun (w : World) (C : Array Value) (n c : Nat) => Lib.run_convert_bytes_const (P := Tryz.prog) w 38 5 C n c Tryz.underlying38 Tryz.underlying5
  have HMd : Hid (∀ W, Calls Tryz.prog 6 #[.int .i64 2] W fun e w' => ∃ g d f l p U, e = .returned (.pointer (some ⟨g, 0, none⟩)) ∧ PW W w' U g d f l p 2 V0 (LS.empty 144 80) 0 0 (fun _ => False)) := fun W => made5_pw 2 W (by omega) (by omega)
  have HDt : Hid (∀ W, Calls Tryz.prog 13 #[.int .i64 9] W fun e w' => e = .returned (.slice (some ⟨W.heap.size, 0, none⟩) 480 480) ∧ Blk w' W.heap.size 5 (bts (dataB 9)).toArray ∧ Fr Nob W w') := fun W => Data_any 9 W (by omega)
  have hd9 : (dataB 9).length = 480 := dataB_length 9
  go_enter Tryz.func11, Tryz.ntmps11
  go_wp2_with fail
  refine (HMd.out w).mono ?_
  rintro e w1 ⟨g, d, f, l, p, U1, rfl, hp1⟩
  have HP1 := Lib.hid hp1
  have c1 := hp1.wld.cl
  have gz := hp1.lt
  clear hp1
  go_wp2_with fail
  have hfa : Fr Nob w1 (w1.alloc (.cells #[.int .u8 120] 5 (1, 2))) := (Fr.refl _ w1).alloc _
  have hbi : BytesIn (w1.alloc (.cells #[.int .u8 120] 5 (1, 2))) (some ⟨w1.heap.size, 0, none⟩) [120] := bytesIn_lit w1 [120] (1, 2)
  have hpa := HP1.out.new hfa
  have hap := hpa.ok.append ⟨w1.heap.size, 0, none⟩ 1 [120] hbi (by simp) (by decide) (by decide) (by omega)
  rw [show ([120] : List UInt8).length = 1 from rfl, show (LS.empty 144 80).next = 1 from rfl] at hap
  have HAp := Lib.hid hap
  have HPa := Lib.hid hpa
  clear hap hbi hpa hfa c1
  refine HAp.out.mono ?_
  rintro e w2 ⟨rfl, U2, hok2, hs2, hf2⟩
  have hp2 := HPa.out.step hok2 hs2 hf2
  have HP2 := Lib.hid hp2
  have c2 := hp2.wld.cp
  have gz2 := hp2.lt
  have hn2 : ((LS.empty 144 80).add [120]).next = 2 := rfl
  obtain ⟨L2, hL2⟩ : ∃ L, (LS.empty 144 80).add [120] = L := ⟨_, rfl⟩
  rw [hL2] at HP2 hn2
  have HN2 := Lib.hid hn2
  clear hp2 hok2 hs2 hf2 HAp HPa hL2 hn2 gz
  go_wp2
  have hS : Fr Nob w2 w2.drew := (Fr.refl _ w2).drew
  refine Rg.begin (Fr Nob w2) [7, 8] (by kernel_rfl) ?_
  refine Rg.op 0 (some 21) hS (v := ?v0a) (a' := ?a0a) (hy := fun wz hwz => ?h0a) (ha := ?b0a) (h := ?_)
  case h0a => (go_simp; try with_reducible rfl)
  case b0a => (simp only [Act.put, List.setIfInBounds_toArray, List.set_cons_zero, List.set_cons_succ]; rfl)
  refine Rg.op 1 (some 22) hS (v := ?v1a) (a' := ?a1a) (hy := fun wz hwz => ?h1a) (ha := ?b1a) (h := ?_)
  case h1a => (have hpp := Nat.lt_of_lt_of_le gz2 hwz.size; go_simp; try with_reducible rfl)
  case b1a => (simp only [Act.put, List.setIfInBounds_toArray, List.set_cons_zero, List.set_cons_succ]; rfl)
  refine Rg.op 2 (some 23) hS (v := ?v2a) (a' := ?a2a) (hy := fun wz hwz => ?h2a) (ha := ?b2a) (h := ?_)
  case h2a => (have hpp := Nat.lt_of_lt_of_le gz2 hwz.size; go_simp; try with_reducible rfl)
  case b2a => (simp only [Act.put, List.setIfInBounds_toArray, List.set_cons_zero, List.set_cons_succ]; rfl)
  refine Rg.op 3 (some 24) hS (v := (.pointer (some ⟨p, 0, none⟩))) (a' := ?a3a) (hy := fun wz hwz => ?h3a) (ha := ?b3a) (h := ?_)
  case h3a => (have cx := (hwz.cell (p := ⟨g, 3, none⟩) gz2 (fun h => h)).trans c2; have hpp := Nat.lt_of_lt_of_le gz2 hwz.size; go_simp; try with_reducible rfl)
  case b3a => (simp only [Act.put, List.setIfInBounds_toArray, List.set_cons_zero, List.set_cons_succ]; rfl)
  refine Rg.op 4 (some 25) hS (v := ?v4a) (a' := ?a4a) (hy := fun wz hwz => ?h4a) (ha := ?b4a) (h := ?_)
  case h4a => (go_simp; try with_reducible rfl)
  case b4a => (simp only [Act.put, List.setIfInBounds_toArray, List.set_cons_zero, List.set_cons_succ]; rfl)
  refine Rg.call 5 (some 26) (hrun := ?h5a) (hcall := HDt.out _) (h := ?_)
  case h5a => (go_simp)
  rintro e wd ⟨rfl, hbd, hfd⟩
  have hSd : Fr Nob w2 wd := hS.trans hfd
  clear hfd
  obtain ⟨gd, hgd⟩ : ∃ s, w2.drew.heap.size = s := ⟨_, rfl⟩
  rw [hgd] at hbd ⊢
  have hgl : w2.heap.size ≤ gd := by rw [← hgd]; simp
  have HBd := Lib.hid hbd
  clear hgd hbd
  refine ⟨_, ?a5a, rfl, ?b5a, (fun _ => hSd), ?_⟩
  case b5a => (simp only [Act.put, List.setIfInBounds_toArray, List.set_cons_zero, List.set_cons_succ]; rfl)
  refine Rg.op 6 (some 27) hSd (v := ?v6a) (a' := ?a6a) (hy := fun wz hwz => ?h6a) (ha := ?b6a) (h := ?_)
  case h6a => (go_simp; try with_reducible rfl)
  case b6a => (simp only [Act.put, List.setIfInBounds_toArray, List.set_cons_zero, List.set_cons_succ]; rfl)
  have hpb := HP2.out.new hSd
  have hput := hpb.ok.put ⟨3, 1, dataB 9⟩ gd 0 480 ⟨bytesIn_of HBd.out, by show (dataB 9).length ≤ 480; omega, fun a ha => by injection ha with ha; subst ha; exact HBd.out.lt⟩ ⟨by show 3 < 100000; omega, by show 1 < 18446744073709551616; omega, hd9⟩ (by show 3 < 8; omega) (by show 1 < L2.next; rw [HN2.out]; omega) (fun e => by have := HP2.out.lo _ e; omega) (by omega)
  have HPut := Lib.hid hput
  have HPb := Lib.hid hpb
  clear hput hpb
  refine Rg.call 7 (some 28) (hrun := ?h7a) (hcall := HPut.out) (h := ?_)
  case h7a => (go_simp)
  rintro e w3 ⟨rfl, U3, hok3, hs3, hf3⟩
  refine ⟨_, ?a7a, rfl, ?b7a, (fun h => absurd (by decide) h), ?_⟩
  case b7a => (simp only [Act.put, List.setIfInBounds_toArray, List.set_cons_zero, List.set_cons_succ]; rfl)
  refine Rg.late 8 (some 4) (v := ?v8a) (a' := ?a8a) (hrun := ?h8a) (ha := ?b8a) (h := ?_)
  case h8a => (go_simp; try with_reducible rfl)
  case b8a => (simp only [Act.put, List.setIfInBounds_toArray, List.set_cons_zero, List.set_cons_succ]; rfl)
  refine Rg.done _ (h := ?_)
  have hp3 := HPb.out.step hok3 hs3 hf3
  have HP3 := Lib.hid hp3
  have c3 := hp3.wld.cp
  have gz3 := hp3.lt
  have HEv := Lib.hid (hp3.ok.evict 3 (by omega) (by omega))
  clear hok3 hs3 hf3 HPb HPut hp3 hS hSd HP2 HP1 c2 gz2 HBd
  go_wp2_with fail
  refine HEv.out.mono ?_
  rintro e w4 ⟨rfl, U4, hok4, hs4, hf4⟩
  have hp4 := (HP3.out.step hok4 hs4 hf4).dmono (Dt' := fun _ => False) (fun k hk => by
    rcases hk.1 with h | h
    · exact h
    · exact hk.2 h)
  obtain ⟨V4, hV4⟩ : ∃ V, (fun no => if no = (⟨3, 1, dataB 9⟩ : PgV).no then (⟨3, 1, dataB 9⟩ : PgV) else V0 no) = V := ⟨_, rfl⟩
  have hV43 : V4 3 = ⟨3, 1, dataB 9⟩ := by rw [← hV4]; rfl
  rw [hV4] at hp4
  have c4 := hp4.wld.cp
  have gz4 := hp4.lt
  have hget := hp4.ok.get 3 (by omega) (by omega)
  rw [hV43] at hget
  have HGet := Lib.hid hget
  have HP4 := Lib.hid hp4
  clear hok4 hs4 hf4 hp4 hV4 hV43 hget HEv HP3 c3 gz3
  go_wp2_with fail
  refine HGet.out.mono ?_
  rintro e w5 ⟨gc, rfl, hc5, hgc, U5, hok5, hug, hs5, hf5⟩
  have hp5 := HP4.out.step hok5 hs5 hf5
  clear hok5 hs5 hf5 hug HGet HP4 c4 gz4
  have hbx : Blk (w5.alloc (.cells #[.int .i64 3, .int .u64 1, .slice (some ⟨gc, 0, none⟩) 480 480] 40)) w5.heap.size 40 #[.int .i64 3, .int .u64 1, .slice (some ⟨gc, 0, none⟩) 480 480] := Blk.new _ _ _
  have hfa : Fr Nob w5 (w5.alloc (.cells #[.int .i64 3, .int .u64 1, .slice (some ⟨gc, 0, none⟩) 480 480] 40)) := (Fr.refl _ w5).alloc _
  have hba : BytesIn (w5.alloc (.cells #[.int .i64 3, .int .u64 1, .slice (some ⟨gc, 0, none⟩) 480 480] 40)) (some ⟨gc, 0, none⟩) (dataB 9) := hc5.bytes.new hfa
  have hpa := hp5.new hfa
  obtain ⟨gb, hgb⟩ : ∃ s, w5.heap.size = s := ⟨_, rfl⟩
  obtain ⟨wa, hwa⟩ : ∃ W, w5.alloc (.cells #[.int .i64 3, .int .u64 1, .slice (some ⟨gc, 0, none⟩) 480 480] 40) = W := ⟨_, rfl⟩
  rw [hwa] at hbx hba hpa
  rw [hgb] at hbx
  have HBx := Lib.hid hbx
  have HBa := Lib.hid hba
  have HPa := Lib.hid hpa
  have c5 := hpa.wld.cp
  have gz5 := hpa.lt
  clear hbx hfa hba hpa hp5 hc5
  go_wp2
  try rw [hwa]
  try rw [hgb]
  clear hwa hgb
  have hS : Fr Nob wa wa.drew := (Fr.refl _ wa).drew
  refine Rg.begin (Fr Nob wa) [] (by kernel_rfl) ?_
  refine Rg.op 0 (some 42) hS (v := ?v0w) (a' := ?a0w) (hy := fun wz hwz => ?h0w) (ha := ?b0w) (h := ?_)
  case h0w => (go_simp; try with_reducible rfl)
  case b0w => (simp only [Act.put, List.setIfInBounds_toArray, List.set_cons_zero, List.set_cons_succ]; rfl)
  refine Rg.op 1 (some 43) hS (v := ?v1w) (a' := ?a1w) (hy := fun wz hwz => ?h1w) (ha := ?b1w) (h := ?_)
  case h1w => (go_simp; try with_reducible rfl)
  case b1w => (simp only [Act.put, List.setIfInBounds_toArray, List.set_cons_zero, List.set_cons_succ]; rfl)
  refine Rg.op 2 (some 44) hS (v := ?v2w) (a' := ?a2w) (hy := fun wz hwz => ?h2w) (ha := ?b2w) (h := ?_)
  case h2w => (go_simp; try with_reducible rfl)
  case b2w => (simp only [Act.put, List.setIfInBounds_toArray, List.set_cons_zero, List.set_cons_succ]; rfl)
  refine Rg.op 3 (some 45) hS (v := ?v3w) (a' := ?a3w) (hy := fun wz hwz => ?h3w) (ha := ?b3w) (h := ?_)
  case h3w => (go_simp; try with_reducible rfl)
  case b3w => (simp only [Act.put, List.setIfInBounds_toArray, List.set_cons_zero, List.set_cons_succ]; rfl)
  refine Rg.op 4 (some 46) hS (v := ?v4w) (a' := ?a4w) (hy := fun wz hwz => ?h4w) (ha := ?b4w) (h := ?_)
  case h4w => (go_simp; try with_reducible rfl)
  case b4w => (simp only [Act.put, List.setIfInBounds_toArray, List.set_cons_zero, List.set_cons_succ]; rfl)
  refine Rg.op 5 (some 47) hS (v := ?v5w) (a' := ?a5w) (hy := fun wz hwz => ?h5w) (ha := ?b5w) (h := ?_)
  case h5w => (go_simp; try with_reducible rfl)
  case b5w => (simp only [Act.put, List.setIfInBounds_toArray, List.set_cons_zero, List.set_cons_succ]; rfl)
  refine Rg.op 6 (some 48) hS (v := ?v6w) (a' := ?a6w) (hy := fun wz hwz => ?h6w) (ha := ?b6w) (h := ?_)
  case h6w => (go_simp; try with_reducible rfl)
  case b6w => (simp only [Act.put, List.setIfInBounds_toArray, List.set_cons_zero, List.set_cons_succ]; rfl)
  refine Rg.op 7 (some 49) hS (v := ?v7w) (a' := ?a7w) (hy := fun wz hwz => ?h7w) (ha := ?b7w) (h := ?_)
  case h7w => (go_simp; try with_reducible rfl)
  case b7w => (simp only [Act.put, List.setIfInBounds_toArray, List.set_cons_zero, List.set_cons_succ]; rfl)
  refine Rg.op 8 (some 50) hS (v := ?v8w) (a' := ?a8w) (hy := fun wz hwz => ?h8w) (ha := ?b8w) (h := ?_)
  case h8w => (go_simp; try with_reducible rfl)
  case b8w => (simp only [Act.put, List.setIfInBounds_toArray, List.set_cons_zero, List.set_cons_succ]; rfl)
  refine Rg.op 9 (some 51) hS (v := ?v9w) (a' := ?a9w) (hy := fun wz hwz => ?h9w) (ha := ?b9w) (h := ?_)
  case h9w => (go_simp; try with_reducible rfl)
  case b9w => (simp only [Act.put, List.setIfInBounds_toArray, List.set_cons_zero, List.set_cons_succ]; rfl)
  refine Rg.op 10 (some 52) hS (v := ?v10w) (a' := ?a10w) (hy := fun wz hwz => ?h10w) (ha := ?b10w) (h := ?_)
  case h10w => (go_simp; try with_reducible rfl)
  case b10w => (simp only [Act.put, List.setIfInBounds_toArray, List.set_cons_zero, List.set_cons_succ]; rfl)
  refine Rg.op 11 (some 53) hS (v := ?v11w) (a' := ?a11w) (hy := fun wz hwz => ?h11w) (ha := ?b11w) (h := ?_)
  case h11w => (go_simp; try with_reducible rfl)
  case b11w => (simp only [Act.put, List.setIfInBounds_toArray, List.set_cons_zero, List.set_cons_succ]; rfl)
  refine Rg.op 12 (some 54) hS (v := ?v12w) (a' := ?a12w) (hy := fun wz hwz => ?h12w) (ha := ?b12w) (h := ?_)
  case h12w => (go_simp; try with_reducible rfl)
  case b12w => (simp only [Act.put, List.setIfInBounds_toArray, List.set_cons_zero, List.set_cons_succ]; rfl)
  refine Rg.op 13 (some 55) hS (v := ?v13w) (a' := ?a13w) (hy := fun wz hwz => ?h13w) (ha := ?b13w) (h := ?_)
  case h13w => (go_simp; try with_reducible rfl)
  case b13w => (simp only [Act.put, List.setIfInBounds_toArray, List.set_cons_zero, List.set_cons_succ]; rfl)
  refine Rg.op 14 (some 56) hS (v := ?v14w) (a' := ?a14w) (hy := fun wz hwz => ?h14w) (ha := ?b14w) (h := ?_)
  case h14w => (go_simp; try with_reducible rfl)
  case b14w => (simp only [Act.put, List.setIfInBounds_toArray, List.set_cons_zero, List.set_cons_succ]; rfl)
  refine Rg.op 15 (some 57) hS (v := ?v15w) (a' := ?a15w) (hy := fun wz hwz => ?h15w) (ha := ?b15w) (h := ?_)
  case h15w => (go_simp; try with_reducible rfl)
  case b15w => (simp only [Act.put, List.setIfInBounds_toArray, List.set_cons_zero, List.set_cons_succ]; rfl)
  refine Rg.op 16 (some 58) hS (v := (.int .i64 3)) (a' := ?a16w) (hy := fun wz hwz => ?h16w) (ha := ?b16w) (h := ?_)
  case h16w => (have hb := HBx.out.fr hwz (fun h => h); have cc1 := Blk.cell hb 0; have hpp := Blk.lt hb; simp only [List.getElem?_toArray, List.getElem?_cons_zero, List.getElem?_cons_succ] at cc1; clear hb; go_simp; try with_reducible rfl)
  case b16w => (simp only [Act.put, List.setIfInBounds_toArray, List.set_cons_zero, List.set_cons_succ]; rfl)
  refine Rg.op 17 (some 59) hS (v := ?v17w) (a' := ?a17w) (hy := fun wz hwz => ?h17w) (ha := ?b17w) (h := ?_)
  case h17w => (go_simp; try with_reducible rfl)
  case b17w => (simp only [Act.put, List.setIfInBounds_toArray, List.set_cons_zero, List.set_cons_succ]; rfl)
  refine Rg.op 18 (some 60) hS (v := ?v18w) (a' := ?a18w) (hy := fun wz hwz => ?h18w) (ha := ?b18w) (h := ?_)
  case h18w => (go_simp; try with_reducible rfl)
  case b18w => (simp only [Act.put, List.setIfInBounds_toArray, List.set_cons_zero, List.set_cons_succ]; rfl)
  refine Rg.op 19 (some 61) hS (v := ?v19w) (a' := ?a19w) (hy := fun wz hwz => ?h19w) (ha := ?b19w) (h := ?_)
  case h19w => (go_simp; try with_reducible rfl)
  case b19w => (simp only [Act.put, List.setIfInBounds_toArray, List.set_cons_zero, List.set_cons_succ]; rfl)
  refine Rg.op 20 (some 62) hS (v := ?v20w) (a' := ?a20w) (hy := fun wz hwz => ?h20w) (ha := ?b20w) (h := ?_)
  case h20w => (go_simp; try with_reducible rfl)
  case b20w => (simp only [Act.put, List.setIfInBounds_toArray, List.set_cons_zero, List.set_cons_succ]; rfl)
  refine Rg.op 21 (some 63) hS (v := (.int .u64 1)) (a' := ?a21w) (hy := fun wz hwz => ?h21w) (ha := ?b21w) (h := ?_)
  case h21w => (have hb := HBx.out.fr hwz (fun h => h); have cc1 := Blk.cell hb 1; have hpp := Blk.lt hb; simp only [List.getElem?_toArray, List.getElem?_cons_zero, List.getElem?_cons_succ] at cc1; clear hb; go_simp; try with_reducible rfl)
  case b21w => (simp only [Act.put, List.setIfInBounds_toArray, List.set_cons_zero, List.set_cons_succ]; rfl)
  refine Rg.op 22 (some 64) hS (v := ?v22w) (a' := ?a22w) (hy := fun wz hwz => ?h22w) (ha := ?b22w) (h := ?_)
  case h22w => (go_simp; try with_reducible rfl)
  case b22w => (simp only [Act.put, List.setIfInBounds_toArray, List.set_cons_zero, List.set_cons_succ]; rfl)
  refine Rg.op 23 (some 65) hS (v := ?v23w) (a' := ?a23w) (hy := fun wz hwz => ?h23w) (ha := ?b23w) (h := ?_)
  case h23w => (go_simp; try with_reducible rfl)
  case b23w => (simp only [Act.put, List.setIfInBounds_toArray, List.set_cons_zero, List.set_cons_succ]; rfl)
  refine Rg.op 24 (some 66) hS (v := ?v24w) (a' := ?a24w) (hy := fun wz hwz => ?h24w) (ha := ?b24w) (h := ?_)
  case h24w => (go_simp; try with_reducible rfl)
  case b24w => (simp only [Act.put, List.setIfInBounds_toArray, List.set_cons_zero, List.set_cons_succ]; rfl)
  refine Rg.op 25 (some 67) hS (v := ?v25w) (a' := ?a25w) (hy := fun wz hwz => ?h25w) (ha := ?b25w) (h := ?_)
  case h25w => (go_simp; try with_reducible rfl)
  case b25w => (simp only [Act.put, List.setIfInBounds_toArray, List.set_cons_zero, List.set_cons_succ]; rfl)
  refine Rg.op 26 (some 68) hS (v := ?v26w) (a' := ?a26w) (hy := fun wz hwz => ?h26w) (ha := ?b26w) (h := ?_)
  case h26w => (go_simp; try with_reducible rfl)
  case b26w => (simp only [Act.put, List.setIfInBounds_toArray, List.set_cons_zero, List.set_cons_succ]; rfl)
  refine Rg.op 27 (some 69) hS (v := (.slice (some ⟨gc, 0, none⟩) 480 480)) (a' := ?a27w) (hy := fun wz hwz => ?h27w) (ha := ?b27w) (h := ?_)
  case h27w => (have hb := HBx.out.fr hwz (fun h => h); have cc1 := Blk.cell hb 2; have hpp := Blk.lt hb; simp only [List.getElem?_toArray, List.getElem?_cons_zero, List.getElem?_cons_succ] at cc1; clear hb; go_simp; try with_reducible rfl)
  case b27w => (simp only [Act.put, List.setIfInBounds_toArray, List.set_cons_zero, List.set_cons_succ]; rfl)
  refine Rg.op 28 (some 70) hS (v := ?v28w) (a' := ?a28w) (hy := fun wz hwz => ?h28w) (ha := ?b28w) (h := ?_)
  case h28w => (have y := conv_in (HBa.out.new hwz) 480; rw [hd9] at y; go_simp; try with_reducible rfl)
  case b28w => (simp only [Act.put, List.setIfInBounds_toArray, List.set_cons_zero, List.set_cons_succ]; rfl)
  refine Rg.call 29 (some 71) (hrun := ?h29w) (hcall := HDt.out _) (h := ?_)
  case h29w => (go_simp)
  rintro e wd ⟨rfl, hbd, hfd⟩
  have hSd : Fr Nob wa wd := hS.trans hfd
  have hbi := conv_in (bytesIn_of hbd) 480
  rw [hd9] at hbi
  clear hfd
  obtain ⟨gd, hgd⟩ : ∃ s, wa.drew.heap.size = s := ⟨_, rfl⟩
  rw [hgd] at hbi hbd ⊢
  clear hgd
  refine ⟨_, ?a29w, rfl, ?b29w, (fun _ => hSd), ?_⟩
  case b29w => (simp only [Act.put, List.setIfInBounds_toArray, List.set_cons_zero, List.set_cons_succ]; rfl)
  refine Rg.seq 30 (some 72) hSd (v := ?v30w) (a' := ?a30w) (hrun := ?h30w) (ha := ?b30w) (h := ?_)
  case h30w => (have y := hbi; go_simp; try with_reducible rfl)
  case b30w => (simp only [Act.put, List.setIfInBounds_toArray, List.set_cons_zero, List.set_cons_succ]; rfl)
  refine Rg.seq 31 (some 73) hSd (v := (.bool true)) (a' := ?a31w) (hrun := ?h31w) (ha := ?b31w) (h := ?_)
  case h31w => (go_simp; try with_reducible rfl)
  case b31w => (simp only [Act.put, List.setIfInBounds_toArray, List.set_cons_zero, List.set_cons_succ]; rfl)
  refine Rg.seq 32 (some 74) hSd (v := ?v32w) (a' := ?a32w) (hrun := ?h32w) (ha := ?b32w) (h := ?_)
  case h32w => (go_simp; try with_reducible rfl)
  case b32w => (simp only [Act.put, List.setIfInBounds_toArray, List.set_cons_zero, List.set_cons_succ]; rfl)
  refine Rg.seq 33 (some 75) hSd (v := ?v33w) (a' := ?a33w) (hrun := ?h33w) (ha := ?b33w) (h := ?_)
  case h33w => (go_simp; try with_reducible rfl)
  case b33w => (simp only [Act.put, List.setIfInBounds_toArray, List.set_cons_zero, List.set_cons_succ]; rfl)
  refine Rg.seq 34 (some 76) hSd (v := ?v34w) (a' := ?a34w) (hrun := ?h34w) (ha := ?b34w) (h := ?_)
  case h34w => (go_simp; try with_reducible rfl)
  case b34w => (simp only [Act.put, List.setIfInBounds_toArray, List.set_cons_zero, List.set_cons_succ]; rfl)
  refine Rg.seq 35 (some 77) hSd (v := ?v35w) (a' := ?a35w) (hrun := ?h35w) (ha := ?b35w) (h := ?_)
  case h35w => (have hwz := hSd; have hpp := Nat.lt_of_lt_of_le gz5 hwz.size; go_simp; try with_reducible rfl)
  case b35w => (simp only [Act.put, List.setIfInBounds_toArray, List.set_cons_zero, List.set_cons_succ]; rfl)
  refine Rg.seq 36 (some 78) hSd (v := ?v36w) (a' := ?a36w) (hrun := ?h36w) (ha := ?b36w) (h := ?_)
  case h36w => (have hwz := hSd; have hpp := Nat.lt_of_lt_of_le gz5 hwz.size; go_simp; try with_reducible rfl)
  case b36w => (simp only [Act.put, List.setIfInBounds_toArray, List.set_cons_zero, List.set_cons_succ]; rfl)
  refine Rg.seq 37 (some 79) hSd (v := (.pointer (some ⟨p, 0, none⟩))) (a' := ?a37w) (hrun := ?h37w) (ha := ?b37w) (h := ?_)
  case h37w => (have hwz := hSd; have cx := (hwz.cell (p := ⟨g, 3, none⟩) gz5 (fun h => h)).trans c5; have hpp := Nat.lt_of_lt_of_le gz5 hwz.size; go_simp; try with_reducible rfl)
  case b37w => (simp only [Act.put, List.setIfInBounds_toArray, List.set_cons_zero, List.set_cons_succ]; rfl)
  have HDy := Lib.hid (HPa.out.new hSd).ok.calmDirty
  refine Rg.call 38 (some 80) (hrun := ?h38w) (hcall := HDy.out) (h := ?_)
  case h38w => (go_simp)
  rintro e wn ⟨A, rfl, hfn⟩
  have hSn : Fr Nob wa wn := hSd.trans hfn
  refine ⟨_, ?a38w, rfl, ?b38w, (fun _ => hSn), ?_⟩
  case b38w => (simp only [Act.put, List.setIfInBounds_toArray, List.set_cons_zero, List.set_cons_succ]; rfl)
  refine Rg.seq 39 (some 81) hSn (v := (.int .i64 0)) (a' := ?a39w) (hrun := ?h39w) (ha := ?b39w) (h := ?_)
  case h39w => (have hq := qL; go_simp; try with_reducible rfl)
  case b39w => (simp only [Act.put, List.setIfInBounds_toArray, List.set_cons_zero, List.set_cons_succ]; rfl)
  refine Rg.seq 40 (some 82) hSn (v := ?v40w) (a' := ?a40w) (hrun := ?h40w) (ha := ?b40w) (h := ?_)
  case h40w => (go_simp; try with_reducible rfl)
  case b40w => (simp only [Act.put, List.setIfInBounds_toArray, List.set_cons_zero, List.set_cons_succ]; rfl)
  refine Rg.seq 41 (some 83) hSn (v := ?v41w) (a' := ?a41w) (hrun := ?h41w) (ha := ?b41w) (h := ?_)
  case h41w => (go_simp; try with_reducible rfl)
  case b41w => (simp only [Act.put, List.setIfInBounds_toArray, List.set_cons_zero, List.set_cons_succ]; rfl)
  refine Rg.seq 42 (some 0) hSn (v := ?v42w) (a' := ?a42w) (hrun := ?h42w) (ha := ?b42w) (h := ?_)
  case h42w => (go_simp; try with_reducible rfl)
  case b42w => (simp only [Act.put, List.setIfInBounds_toArray, List.set_cons_zero, List.set_cons_succ]; rfl)
  refine Rg.done _ (h := ?_)
  go_wp2
  go_ret
  exact ⟨rfl, HPa.out.fr.trans hSn⟩
end Go.Proofs.YtccmmnacejdeoaaGreatDoor

/-
  PoolBounds walked.
-/
namespace Go.Proofs.YtccmmnacejdeoaaGreatDoor
set_option linter.unusedSimpArgs false
set_option linter.unusedVariables false
open Go.RowKit Go.Maps

theorem u64_bounds {x : Int} (h : (Lit.int .u64 x).wf = true) : 0 ≤ x := by
  have e0 : IntKind.u64.min = 0 := by decide
  simp only [Lit.wf, e0, Bool.and_eq_true, decide_eq_true_eq] at h
  exact h.1
theorem makeK (k : Nat) (hk : k < 1024) (w : World) : (Instr.makeSlice 38 (.int .i64 k) (.int .i64 k)).run Tryz.prog w = .ok (.slice (some ⟨w.heap.size, 0, none⟩) k k) (w.alloc (.cells (zeroCells k) 5)) :=
  run_make_row' (P := Tryz.prog) 38 5 (.int .u8 0) 1 Tryz.underlying38 info_u8z rfl .i64 .i64 k (by omega) (by omega) w
theorem and1023 (n : Int) : ∃ k : Nat, bits .and .i64 n 1023 = (k : Int) ∧ k < 1024 := by
  have := i64_mask n 1023 10 (by decide) (by decide) (by decide)
  have h2 : n % ((2 ^ 10 : Nat) : Int) = n % 1024 := rfl
  exact ⟨(n % 1024).toNat, by rw [this, h2]; omega, by omega⟩
set_option maxHeartbeats 12800000 in
set_option maxRecDepth 100000 in
theorem PoolBounds_row (frames no long lsn : Int) (w : World) (n0 : -9223372036854775808 ≤ no) (n1 : no ≤ 9223372036854775807) (s0 : 0 ≤ lsn) :
    Calls Tryz.prog 3 #[.int .i64 frames, .int .i64 no, .int .i64 long, .int .u64 lsn] w fun e w' => e = .returned (.bool true) ∧ Fr Nob w w' := by
  obtain ⟨k, hand, hk⟩ := and1023 long
  have HMd : Hid (∀ W, Calls Tryz.prog 6 #[.int .i64 3] W fun e w' => ∃ g d f l p U, e = .returned (.pointer (some ⟨g, 0, none⟩)) ∧ PW W w' U g d f l p 3 V0 (LS.empty 144 80) 0 0 (fun _ => False)) := fun W => made5_pw 3 W (by omega) (by omega)
  have HAw : Hid (∀ W, Calls Tryz.prog 11 #[] W fun e w' => e = .returned (.bool true) ∧ Fr Nob W w') := fun W => awake5_any W
  have HMk := Lib.hid (makeK k hk)
  have hnx : (LS.empty 144 80).next = 1 := rfl
  obtain ⟨L0, hL0⟩ : ∃ L, LS.empty 144 80 = L := ⟨_, rfl⟩
  rw [hL0] at hnx HMd
  have HNx := Lib.hid hnx
  have HAnd := Lib.hid hand
  clear hL0 hnx hand
  go_enter Tryz.func3, Tryz.ntmps3
  go_wp2_with fail
  refine (HMd.out w).mono ?_
  rintro e w1 ⟨g, d, f, l, p, U1, rfl, hp1⟩
  have HP1 := Lib.hid hp1
  have c1 := hp1.wld.cf
  have c2 := hp1.wld.cl
  have gz := hp1.lt
  have HNw : Hid (∀ W, Calls Tryz.prog 7 #[.pointer (some ⟨f, 0, none⟩), .pointer (some ⟨l, 0, none⟩), .int .i64 frames] W fun e w' => ∃ q c, e = .returned (.tuple #[.pointer q, .int .i64 c]) ∧ (((1 ≤ frames ∧ frames ≤ 64) ∧ c = 0 ∧ ∃ k, q = some k) ∨ (¬ (1 ≤ frames ∧ frames ≤ 64) ∧ c = 1 ∧ q = none)) ∧ Fr Nob W w') := fun W => PNew_some ⟨f, 0, none⟩ ⟨l, 0, none⟩ frames W
  have HB1 : Hid (∀ W, Calls Tryz.prog 7 #[.pointer none, .pointer (some ⟨l, 0, none⟩), .int .i64 3] W fun e w' => e = .returned (.tuple #[.pointer none, .int .i64 1]) ∧ W = w') := fun W => PNew_bad none (some ⟨l, 0, none⟩) 3 W (.inl rfl)
  have HB2 : Hid (∀ W, Calls Tryz.prog 7 #[.pointer (some ⟨f, 0, none⟩), .pointer none, .int .i64 3] W fun e w' => e = .returned (.tuple #[.pointer none, .int .i64 1]) ∧ W = w') := fun W => PNew_bad (some ⟨f, 0, none⟩) none 3 W (.inr (.inl rfl))
  clear hp1
  go_wp2
  have hS : Fr Nob w1 w1.drew := (Fr.refl _ w1).drew
  refine Rg.begin (Fr Nob w1) [] (by kernel_rfl) ?_
  refine Rg.op 0 (some 26) hS (v := ?v0a) (a' := ?a0a) (hy := fun wz hwz => ?h0a) (ha := ?b0a) (h := ?_)
  case h0a => (go_simp; try with_reducible rfl)
  case b0a => (simp only [Act.put, List.setIfInBounds_toArray, List.set_cons_zero, List.set_cons_succ]; rfl)
  refine Rg.op 1 (some 27) hS (v := ?v1a) (a' := ?a1a) (hy := fun wz hwz => ?h1a) (ha := ?b1a) (h := ?_)
  case h1a => (have hpp := Nat.lt_of_lt_of_le gz hwz.size; go_simp; try with_reducible rfl)
  case b1a => (simp only [Act.put, List.setIfInBounds_toArray, List.set_cons_zero, List.set_cons_succ]; rfl)
  refine Rg.op 2 (some 28) hS (v := ?v2a) (a' := ?a2a) (hy := fun wz hwz => ?h2a) (ha := ?b2a) (h := ?_)
  case h2a => (have hpp := Nat.lt_of_lt_of_le gz hwz.size; go_simp; try with_reducible rfl)
  case b2a => (simp only [Act.put, List.setIfInBounds_toArray, List.set_cons_zero, List.set_cons_succ]; rfl)
  refine Rg.op 3 (some 29) hS (v := (.pointer (some ⟨f, 0, none⟩))) (a' := ?a3a) (hy := fun wz hwz => ?h3a) (ha := ?b3a) (h := ?_)
  case h3a => (have cx := (hwz.cell (p := ⟨g, 1, none⟩) gz (fun h => h)).trans c1; have hpp := Nat.lt_of_lt_of_le gz hwz.size; go_simp; try with_reducible rfl)
  case b3a => (simp only [Act.put, List.setIfInBounds_toArray, List.set_cons_zero, List.set_cons_succ]; rfl)
  refine Rg.op 4 (some 30) hS (v := ?v4a) (a' := ?a4a) (hy := fun wz hwz => ?h4a) (ha := ?b4a) (h := ?_)
  case h4a => (go_simp; try with_reducible rfl)
  case b4a => (simp only [Act.put, List.setIfInBounds_toArray, List.set_cons_zero, List.set_cons_succ]; rfl)
  refine Rg.op 5 (some 31) hS (v := ?v5a) (a' := ?a5a) (hy := fun wz hwz => ?h5a) (ha := ?b5a) (h := ?_)
  case h5a => (have hpp := Nat.lt_of_lt_of_le gz hwz.size; go_simp; try with_reducible rfl)
  case b5a => (simp only [Act.put, List.setIfInBounds_toArray, List.set_cons_zero, List.set_cons_succ]; rfl)
  refine Rg.op 6 (some 32) hS (v := ?v6a) (a' := ?a6a) (hy := fun wz hwz => ?h6a) (ha := ?b6a) (h := ?_)
  case h6a => (have hpp := Nat.lt_of_lt_of_le gz hwz.size; go_simp; try with_reducible rfl)
  case b6a => (simp only [Act.put, List.setIfInBounds_toArray, List.set_cons_zero, List.set_cons_succ]; rfl)
  refine Rg.op 7 (some 33) hS (v := (.pointer (some ⟨l, 0, none⟩))) (a' := ?a7a) (hy := fun wz hwz => ?h7a) (ha := ?b7a) (h := ?_)
  case h7a => (have cx := (hwz.cell (p := ⟨g, 2, none⟩) gz (fun h => h)).trans c2; have hpp := Nat.lt_of_lt_of_le gz hwz.size; go_simp; try with_reducible rfl)
  case b7a => (simp only [Act.put, List.setIfInBounds_toArray, List.set_cons_zero, List.set_cons_succ]; rfl)
  refine Rg.op 8 (some 34) hS (v := ?v8a) (a' := ?a8a) (hy := fun wz hwz => ?h8a) (ha := ?b8a) (h := ?_)
  case h8a => (go_simp; try with_reducible rfl)
  case b8a => (simp only [Act.put, List.setIfInBounds_toArray, List.set_cons_zero, List.set_cons_succ]; rfl)
  refine Rg.call 9 (some 35) (hrun := ?h9a) (hcall := HNw.out _) (h := ?_)
  case h9a => (go_simp)
  rintro e w2 ⟨q, cq, rfl, hq, hf2⟩
  have hS2 : Fr Nob w1 w2 := hS.trans hf2
  have HQ := Lib.hid hq
  clear hq hf2
  refine ⟨_, ?a9a, rfl, ?b9a, (fun _ => hS2), ?_⟩
  case b9a => (simp only [Act.put, List.setIfInBounds_toArray, List.set_cons_zero, List.set_cons_succ]; rfl)
  refine Rg.op 10 (some 25) hS2 (v := ?v10a) (a' := ?a10a) (hy := fun wz hwz => ?h10a) (ha := ?b10a) (h := ?_)
  case h10a => (go_simp; try with_reducible rfl)
  case b10a => (simp only [Act.put, List.setIfInBounds_toArray, List.set_cons_zero, List.set_cons_succ]; rfl)
  refine Rg.op 11 (some 36) hS2 (v := ?v11a) (a' := ?a11a) (hy := fun wz hwz => ?h11a) (ha := ?b11a) (h := ?_)
  case h11a => (go_simp; try with_reducible rfl)
  case b11a => (simp only [Act.put, List.setIfInBounds_toArray, List.set_cons_zero, List.set_cons_succ]; rfl)
  refine Rg.op 12 (some 37) hS2 (v := ?v12a) (a' := ?a12a) (hy := fun wz hwz => ?h12a) (ha := ?b12a) (h := ?_)
  case h12a => (go_simp; try with_reducible rfl)
  case b12a => (simp only [Act.put, List.setIfInBounds_toArray, List.set_cons_zero, List.set_cons_succ]; rfl)
  refine Rg.op 13 (some 10) hS2 (v := ?v13a) (a' := ?a13a) (hy := fun wz hwz => ?h13a) (ha := ?b13a) (h := ?_)
  case h13a => (go_simp; try with_reducible rfl)
  case b13a => (simp only [Act.put, List.setIfInBounds_toArray, List.set_cons_zero, List.set_cons_succ]; rfl)
  refine Rg.op 14 (some 11) hS2 (v := ?v14a) (a' := ?a14a) (hy := fun wz hwz => ?h14a) (ha := ?b14a) (h := ?_)
  case h14a => (go_simp; try with_reducible rfl)
  case b14a => (simp only [Act.put, List.setIfInBounds_toArray, List.set_cons_zero, List.set_cons_succ]; rfl)
  refine Rg.done _ (h := ?_)
  have hp2 := HP1.out.new hS2
  have HP2 := Lib.hid hp2
  have c1 := hp2.wld.cf
  have c2 := hp2.wld.cl
  have c3 := hp2.wld.cp
  have gz2 := hp2.lt
  clear hp2 hS2 hS HP1 HNw gz
  go_upto_region 5 with fail
  go_cut [53] (fun s53 wx => s53 = .bool false ∧ wx = w2)
  case first =>
    rcases HQ.out with ⟨⟨h1, h2⟩, rfl, kq, rfl⟩ | ⟨hn, rfl, rfl⟩
    · go_wp2_with fail
      go_meet
      exact ⟨rfl, rfl⟩
    · rcases (by omega : ¬ 1 ≤ frames ∨ (1 ≤ frames ∧ ¬ frames ≤ 64)) with h1 | ⟨h1, h2⟩
      · clear hn
        go_wp2_with fail
        go_meet
        exact ⟨rfl, rfl⟩
      · clear hn
        go_wp2_with fail
        go_meet
        exact ⟨rfl, rfl⟩
  case rest =>
    obtain ⟨rfl, rfl⟩ := hcut
    clear HQ
    go_wp2_with fail
    refine (HB1.out _).mono ?_
    rintro e w3 ⟨rfl, rfl⟩
    go_wp2_with fail
    refine (HB2.out _).mono ?_
    rintro e w3 ⟨rfl, rfl⟩
    have hand := HAnd.out
    go_wp2
    clear hand
    have hS : Fr Nob wc wc.drew := (Fr.refl _ wc).drew
    refine Rg.begin (Fr Nob wc) [9, 10] (by kernel_rfl) ?_
    refine Rg.op 0 (some 72) hS (v := ?v0b) (a' := ?a0b) (hy := fun wz hwz => ?h0b) (ha := ?b0b) (h := ?_)
    case h0b => (go_simp; try with_reducible rfl)
    case b0b => (simp only [Act.put, List.setIfInBounds_toArray, List.set_cons_zero, List.set_cons_succ]; rfl)
    refine Rg.op 1 (some 73) hS (v := ?v1b) (a' := ?a1b) (hy := fun wz hwz => ?h1b) (ha := ?b1b) (h := ?_)
    case h1b => (have hpp := Nat.lt_of_lt_of_le gz2 hwz.size; go_simp; try with_reducible rfl)
    case b1b => (simp only [Act.put, List.setIfInBounds_toArray, List.set_cons_zero, List.set_cons_succ]; rfl)
    refine Rg.op 2 (some 74) hS (v := ?v2b) (a' := ?a2b) (hy := fun wz hwz => ?h2b) (ha := ?b2b) (h := ?_)
    case h2b => (have hpp := Nat.lt_of_lt_of_le gz2 hwz.size; go_simp; try with_reducible rfl)
    case b2b => (simp only [Act.put, List.setIfInBounds_toArray, List.set_cons_zero, List.set_cons_succ]; rfl)
    refine Rg.op 3 (some 75) hS (v := (.pointer (some ⟨p, 0, none⟩))) (a' := ?a3b) (hy := fun wz hwz => ?h3b) (ha := ?b3b) (h := ?_)
    case h3b => (have cx := (hwz.cell (p := ⟨g, 3, none⟩) gz2 (fun h => h)).trans c3; have hpp := Nat.lt_of_lt_of_le gz2 hwz.size; go_simp; try with_reducible rfl)
    case b3b => (simp only [Act.put, List.setIfInBounds_toArray, List.set_cons_zero, List.set_cons_succ]; rfl)
    refine Rg.op 4 (some 76) hS (v := ?v4b) (a' := ?a4b) (hy := fun wz hwz => ?h4b) (ha := ?b4b) (h := ?_)
    case h4b => (go_simp; try with_reducible rfl)
    case b4b => (simp only [Act.put, List.setIfInBounds_toArray, List.set_cons_zero, List.set_cons_succ]; rfl)
    refine Rg.op 5 (some 77) hS (v := ?v5b) (a' := ?a5b) (hy := fun wz hwz => ?h5b) (ha := ?b5b) (h := ?_)
    case h5b => (go_simp; try with_reducible rfl)
    case b5b => (simp only [Act.put, List.setIfInBounds_toArray, List.set_cons_zero, List.set_cons_succ]; rfl)
    refine Rg.op 6 (some 78) hS (v := ?v6b) (a' := ?a6b) (hy := fun wz hwz => ?h6b) (ha := ?b6b) (h := ?_)
    case h6b => (go_simp; try with_reducible rfl)
    case b6b => (simp only [Act.put, List.setIfInBounds_toArray, List.set_cons_zero, List.set_cons_succ]; rfl)
    have hSb : Fr Nob wc (wc.drew.alloc (.cells (zeroCells k) 5)) := hS.alloc _
    refine Rg.run 7 (some 79) (v := (.slice (some ⟨wc.drew.heap.size, 0, none⟩) k k)) (a' := ?a7b) (w' := (wc.drew.alloc (.cells (zeroCells k) 5))) (hrun := ?h7b) (ha := ?b7b) (hS := (fun _ => hSb)) (h := ?_)
    case h7b => (have hmk := HMk.out; go_simp; try with_reducible rfl)
    case b7b => (simp only [Act.put, List.setIfInBounds_toArray, List.set_cons_zero, List.set_cons_succ]; rfl)
    refine Rg.op 8 (some 80) hSb (v := ?v8b) (a' := ?a8b) (hy := fun wz hwz => ?h8b) (ha := ?b8b) (h := ?_)
    case h8b => (go_simp; try with_reducible rfl)
    case b8b => (simp only [Act.put, List.setIfInBounds_toArray, List.set_cons_zero, List.set_cons_succ]; rfl)
    have hbk : Blk (wc.drew.alloc (.cells (zeroCells k) 5)) wc.drew.heap.size 5 (zeroCells k) := Blk.new _ _ _
    have HPb := Lib.hid (HP2.out.new hSb)
    have hput := HPb.out.put_any no lsn (some ⟨wc.drew.heap.size, 0, none⟩) k k s0 (fun hk480 => ⟨_, _, rfl, ⟨bytesIn_of (Eq.mp (congrArg (fun z => Blk (wc.drew.alloc (.cells (zeroCells k) 5)) wc.drew.heap.size 5 z) (by rw [zeroCells_eq, hk480])) hbk), by rw [zeros_length, hk480]; exact Nat.le_refl _, fun a ha => by injection ha with ha; subst ha; exact hbk.lt⟩, fun e => by have := HP2.out.lo _ e; simp at this⟩) HNx.out (by omega)
    have HPut := Lib.hid hput
    clear hput hbk
    refine Rg.call 9 (some 81) (hrun := ?h9b) (hcall := HPut.out) (h := ?_)
    case h9b => (go_simp)
    rintro e w4 ⟨cp, rfl, hcp, U4, V4, hp4⟩
    refine ⟨_, ?a9b, rfl, ?b9b, (fun h => absurd (by decide) h), ?_⟩
    case b9b => (simp only [Act.put, List.setIfInBounds_toArray, List.set_cons_zero, List.set_cons_succ]; rfl)
    refine Rg.late 10 (some 16) (v := ?v10b) (a' := ?a10b) (hrun := ?h10b) (ha := ?b10b) (h := ?_)
    case h10b => (go_simp; try with_reducible rfl)
    case b10b => (simp only [Act.put, List.setIfInBounds_toArray, List.set_cons_zero, List.set_cons_succ]; rfl)
    refine Rg.done _ (h := ?_)
    have HCp := Lib.hid hcp
    have HP4 := Lib.hid hp4
    have c3 := hp4.wld.cp
    have gz4 := hp4.lt
    clear hcp hp4 HPut HPb hSb hS HP2 c1 c2 gz2
    go_upto_region 11 with fail
    go_cut [17] (fun s17 wx => wx = w4 ∧ ∃ bg : Bool, s17 = .bool bg ∧ Hid (bg = decide ((0 ≤ no ∧ no < 8) ∧ k = 480 ∧ lsn < 1)))
    case first =>
      rcases (by omega : ¬ 0 ≤ no ∨ (0 ≤ no ∧ ¬ no < 8) ∨ (0 ≤ no ∧ no < 8 ∧ ¬ (k : Int) = 480) ∨ (0 ≤ no ∧ no < 8 ∧ (k : Int) = 480 ∧ ¬ lsn < 1) ∨ (0 ≤ no ∧ no < 8 ∧ (k : Int) = 480 ∧ lsn < 1)) with h | ⟨h, h2⟩ | ⟨h, h2, h3⟩ | ⟨h, h2, h3, h4⟩ | ⟨h, h2, h3, h4⟩
      · go_wp2_with fail
        go_meet
        exact ⟨rfl, _, rfl, by show _ = _; symm; apply decide_eq_false; omega⟩
      · go_wp2_with fail
        go_meet
        exact ⟨rfl, _, rfl, by show _ = _; symm; apply decide_eq_false; omega⟩
      · go_wp2_with fail
        go_meet
        exact ⟨rfl, _, rfl, by show _ = _; symm; apply decide_eq_false; omega⟩
      · have hb : ((k : Int) == 480) = true := by simpa using h3
        have hb2 : decide ((k : Int) = 480) = true := by simpa using h3
        have H3 := Lib.hid h3
        clear h3
        go_wp2_with fail
        go_meet
        exact ⟨rfl, _, rfl, by show _ = _; symm; apply decide_eq_false; omega⟩
      · have hb : ((k : Int) == 480) = true := by simpa using h3
        have hb2 : decide ((k : Int) = 480) = true := by simpa using h3
        have H3 := Lib.hid h3
        clear h3
        go_wp2_with fail
        go_meet
        have h3 := H3.out
        exact ⟨rfl, _, rfl, by show _ = _; symm; apply decide_eq_true; omega⟩
    case rest =>
      obtain ⟨rfl, bg, rfl, HBg⟩ := hcut
      have HGet := Lib.hid (HP4.out.get_any no n0 n1 (by omega))
      go_wp2_with fail
      refine HGet.out.mono ?_
      rintro e w5 ⟨a1, a2, A3, n3, k3, cg, rfl, hcg, U5, V5, hp5⟩
      have HCg := Lib.hid hcg
      have hp6 := hp5.new ((Fr.refl Nob w5).alloc (.cells #[.int .i64 a1, .int .u64 a2, .slice A3 n3 k3] 40))
      have HP6 := Lib.hid hp6
      have c3 := hp6.wld.cp
      have gz6 := hp6.lt
      have HEv := Lib.hid (hp6.ok)
      clear hcg hp5 hp6 HGet HP4 gz4 HEv
      have HEv := Lib.hid (HP6.out.evict_any no (by omega))
      obtain ⟨w6, hw6⟩ : ∃ W, w5.alloc (.cells #[.int .i64 a1, .int .u64 a2, .slice A3 n3 k3] 40) = W := ⟨_, rfl⟩
      rw [hw6] at HP6 c3 gz6 HEv
      go_wp2_with fail
      try rw [hw6]
      refine HEv.out.mono ?_
      rintro e w7 ⟨ce, rfl, hce, U7, V7, hp7⟩
      have HCe := Lib.hid hce
      have HP7 := Lib.hid hp7
      clear hce hp7 HEv HP6 hw6 gz6
      go_upto_region 14 with fail
      go_cut [21] (fun s21 wx => wx = w7 ∧ ∃ bi : Bool, s21 = .bool bi ∧ Hid (bi = decide (0 ≤ no ∧ no < 8)))
      case first =>
        rcases (by omega : ¬ 0 ≤ no ∨ (0 ≤ no ∧ ¬ no < 8) ∨ (0 ≤ no ∧ no < 8)) with h | ⟨h, h2⟩ | ⟨h, h2⟩
        all_goals
          go_wp2_with fail
          go_meet
          exact ⟨rfl, _, rfl, by show _ = _; symm; first | (apply decide_eq_true; omega) | (apply decide_eq_false; omega)⟩
      case rest =>
        obtain ⟨rfl, bi, rfl, HBi⟩ := hcut
        rcases HCp.out with ⟨hg, rfl⟩ | ⟨hg, rfl⟩
        · rcases HCg.out with ⟨hi, rfl⟩ | ⟨hi, rfl⟩
          · rcases HCe.out with ⟨_, rfl⟩ | ⟨hj, _⟩
            · obtain rfl : bg = true := by rw [HBg.out]; exact decide_eq_true hg
              obtain rfl : bi = true := by rw [HBi.out]; exact decide_eq_true hi
              clear hg hi
              go_wp2_with fail
              refine (HAw.out _).mono ?_
              rintro e w8 ⟨rfl, hf8⟩
              go_wp2_with fail
              go_ret
              exact ⟨rfl, HP7.out.fr.trans hf8⟩
            · exact absurd hi hj
          · exact absurd hg.1 hi
        · rcases HCg.out with ⟨hi, rfl⟩ | ⟨hi, rfl⟩
          · rcases HCe.out with ⟨_, rfl⟩ | ⟨hj, _⟩
            · obtain rfl : bg = false := by rw [HBg.out]; exact decide_eq_false hg
              obtain rfl : bi = true := by rw [HBi.out]; exact decide_eq_true hi
              clear hg hi
              go_wp2_with fail
              refine (HAw.out _).mono ?_
              rintro e w8 ⟨rfl, hf8⟩
              go_wp2_with fail
              go_ret
              exact ⟨rfl, HP7.out.fr.trans hf8⟩
            · exact absurd hi hj
          · rcases HCe.out with ⟨hj, _⟩ | ⟨_, rfl⟩
            · exact absurd hj hi
            · obtain rfl : bg = false := by rw [HBg.out]; exact decide_eq_false hg
              obtain rfl : bi = false := by rw [HBi.out]; exact decide_eq_false hi
              clear hg hi
              go_wp2_with fail
              refine (HAw.out _).mono ?_
              rintro e w8 ⟨rfl, hf8⟩
              go_wp2_with fail
              go_ret
              exact ⟨rfl, HP7.out.fr.trans hf8⟩
end Go.Proofs.YtccmmnacejdeoaaGreatDoor
