/-
  may: pages that may be written.
-/
import Derived.Test.YtilclfeaolhoeaaDoorPgLayR
import Derived.Maps.Own
namespace Go.Proofs.YtilclfeaolhoeaaDoor
set_option linter.unusedSimpArgs false
set_option linter.unusedVariables false
open Go.RowKit

theorem map_fr {H : Type} {P : Program} {k : TypeId} {R : Value → Option (DataW H × List MemPlace)} {b n : Nat} {D : DataW H} {w w' : World} {F : Nat → Prop} (h : w.ownsMap P k R b n D) (hf : Fr F w w') (hb : ¬ F b) : w'.ownsMap P k R b n D := by
  obtain ⟨es, clock, hh, r⟩ := h
  exact ⟨es, clock, (hf.block b (by have := (Array.getElem?_eq_some_iff.1 hh).1; exact this) hb).trans hh, r⟩
theorem map_lt {H : Type} {P : Program} {k : TypeId} {R : Value → Option (DataW H × List MemPlace)} {b n : Nat} {D : DataW H} {w : World} (h : w.ownsMap P k R b n D) : b < w.heap.size := by
  obtain ⟨es, clock, hh, r⟩ := h
  exact (Array.getElem?_eq_some_iff.1 hh).1
theorem fr_of_grown {w w' : World} {b : Nat} (h : w.grownBy w' (some b)) : Fr (fun x => x = b) w w' := Fr.grown (Fr.refl _ w) h (fun k e => .inr (by injection e with e; exact e.symm))

set_option maxHeartbeats 3200000 in
set_option maxRecDepth 100000 in
theorem may_ok {R : Nat → Prop} {w : World} {p d at0 pages turn : Nat} (A : Option Addr) (c : Nat) (l : List (PgV × Value)) (h : FileAt w p d at0 pages turn) (hl : PgsIn R w A l) (hn : l.length ≤ 8) (hpg : pages ≤ 5000) (hno : ∀ x ∈ l, x.1.no < pages)
    (hdis : ∀ (i j : Nat) x y, l[i]? = some x → l[j]? = some y → x.1.no = y.1.no → i = j) :
    Calls Tryd.prog 17 #[.pointer (some ⟨p, 0, none⟩), .slice A l.length c] w fun e w' => e = .returned (.int .i64 0) ∧ Fr Nob w w' := by
  have hmm := @run_makeMap Tryd.prog
  have qP := len_Pg
  have qB := len_by
  have HL := Lib.hid hl
  have HNo := Lib.hid hno
  have HDis := Lib.hid hdis
  have H := Lib.hid h
  have hp0 := h.lt
  obtain ⟨M, hM⟩ : ∃ m, w.heap.size = m := ⟨_, rfl⟩
  have HM := Lib.hid hM
  have HMap0 : Hid ((w.alloc (.map #[] 0)).ownsMap (H := Unit) Tryd.prog 3 (plainElem Tryd.prog 4) M 0 (seenD [])) := by rw [← hM]; exact World.ownsMap_made w _ _ _
  have HF0 : Hid (Fr Nob w (w.alloc (.map #[] 0))) := (Fr.refl _ w).alloc _
  obtain ⟨n, hnn⟩ : ∃ n, l.length = n := ⟨_, rfl⟩
  have HN := Lib.hid hnn
  rw [hnn] at hn ⊢
  have t0 : ¬ (n : Int) > 8 := by omega
  have t1 : ¬ (8 : Int) < (n : Int) := by omega
  clear h hl hno hdis hnn
  go_enter Tryd.func17, Tryd.ntmps17
  go_wp2
  try (rw [qP]; go_wp2)
  clear hM
  go_loopw [7, 14] (fun _ iv wr => ∃ k : Nat, k ≤ n ∧ iv = .int .i64 k ∧ Hid (wr.ownsMap (H := Unit) Tryd.prog 3 (plainElem Tryd.prog 4) M k (seenD ((l.take k).map fun x => (x.1.no : Int)))) ∧ Hid (Fr Nob w wr)) (fun _ iv _ => n - (intOf iv).toNat)
  case atStart => exact ⟨0, by omega, rfl, HMap0.out, HF0.out⟩
  case round =>
    clear HMap0 HF0
    obtain ⟨k, hk, rfl, hmp, hF⟩ := hrel
    by_cases hlt : k < n
    · have hkl : k < l.length := by rw [HN.out]; exact hlt
      obtain ⟨x, hx⟩ : ∃ x, l[k]? = some x := ⟨_, List.getElem?_eq_getElem hkl⟩
      have hin := HL.out.fr hF.out (fun b _ h => h.elim)
      obtain ⟨g, rfl, hgR, hcs⟩ := hin (by omega)
      obtain ⟨c0, c1, c2, kb, ko, cc, hv, hbs, hkb⟩ := hcs k x hx
      have hxno := HNo.out x (List.mem_of_getElem? hx)
      have HSn : Hid (seenD ((l.take (k + 1)).map fun x => (x.1.no : Int)) = (seenD ((l.take k).map fun x => (x.1.no : Int))).put (.int .i64 (x.1.no : Int)) (.lit (.bool true))) := by
        show _ = _
        rw [← seenD_snoc, List.take_add_one, hx, List.map_append]; rfl
      have HNin : Hid (¬ ((x.1.no : Nat) : Int) ∈ (l.take k).map fun x => (x.1.no : Int)) := by
        intro hm
        obtain ⟨y, hy, he⟩ := List.mem_map.1 hm
        obtain ⟨i, hi⟩ := List.mem_iff_getElem?.1 hy
        have hik : i < k := by have := (List.getElem?_eq_some_iff.1 hi).1; rw [List.length_take] at this; omega
        rw [List.getElem?_take, if_pos hik] at hi
        have := HDis.out i k y x hi hx (by omega)
        omega
      have hcl := cell_lt c0
      rw [hv] at c2
      obtain ⟨⟨xn, xl, xd⟩, xv⟩ := x
      dsimp only at c0 c1 c2 hxno HSn HNin
      have HMp := Lib.hid hmp.out
      have HWf := Lib.hid (wf_i64 (x := (xn : Int)) (by omega) (by omega))
      clear hcs hin hbs hv hx hmp hkl
      go_wp2
      have hfb : FileAt wr p d at0 pages turn := H.out.fr hF.out (fun h => h)
      have hfa : FileAt (wr.alloc (.cells #[.int .i64 xn, .int .u64 xl, .slice (some ⟨kb, ko, none⟩) 480 cc] 37)) p d at0 pages turn := Blk.alloc hfb _
      have hbx : Blk (wr.alloc (.cells #[.int .i64 xn, .int .u64 xl, .slice (some ⟨kb, ko, none⟩) 480 cc] 37)) wr.heap.size 37 #[.int .i64 xn, .int .u64 xl, .slice (some ⟨kb, ko, none⟩) 480 cc] := Blk.new _ _ _
      have hma := map_fr HMp.out ((Fr.refl Nob wr).alloc (.cells #[.int .i64 xn, .int .u64 xl, .slice (some ⟨kb, ko, none⟩) 480 cc] 37)) (fun h => h)
      have hfw : Fr Nob w (wr.alloc (.cells #[.int .i64 xn, .int .u64 xl, .slice (some ⟨kb, ko, none⟩) 480 cc] 37)) := hF.out.alloc _
      obtain ⟨wa, hwa⟩ : ∃ W, wr.alloc (.cells #[.int .i64 xn, .int .u64 xl, .slice (some ⟨kb, ko, none⟩) 480 cc] 37) = W := ⟨_, rfl⟩
      rw [hwa] at hfa hbx hma hfw ⊢
      obtain ⟨gb, hgb⟩ : ∃ g, wr.heap.size = g := ⟨_, rfl⟩
      rw [hgb] at hbx ⊢
      have HFa := Lib.hid hfa
      have HBx := Lib.hid hbx
      have HMa := Lib.hid hma
      have HFw := Lib.hid hfw
      clear hwa hgb hfa hbx hma hfw hfb HMp hF c0 c1 c2
      have hS : Fr Nob wa wa.drew := (Fr.refl _ wa).drew
      refine Rg.begin' (Fr Nob wa) [] (by kernel_rfl) ?_
      refine Rg.op 0 (some 18) hS (v := ?v0r7) (a' := ?a0r7) (hy := fun wz hwz => ?h0r7) (ha := ?b0r7) (h := ?_)
      case h0r7 => (go_simp; try with_reducible rfl)
      case b0r7 => (simp only [Act.put, List.setIfInBounds_toArray, List.set_cons_zero, List.set_cons_succ]; rfl)
      refine Rg.op 1 (some 19) hS (v := ?v1r7) (a' := ?a1r7) (hy := fun wz hwz => ?h1r7) (ha := ?b1r7) (h := ?_)
      case h1r7 => (have hb := HBx.out.fr hwz (fun h => h); have cc1 := Blk.cell hb 0; have hpp := Blk.lt hb; simp only [List.getElem?_toArray, List.getElem?_cons_zero, List.getElem?_cons_succ] at cc1; clear hb; go_simp; try with_reducible rfl)
      case b1r7 => (simp only [Act.put, List.setIfInBounds_toArray, List.set_cons_zero, List.set_cons_succ]; rfl)
      refine Rg.op 2 (some 20) hS (v := (.bool false)) (a' := ?a2r7) (hy := fun wz hwz => ?h2r7) (ha := ?b2r7) (h := ?_)
      case h2r7 => (have y : ¬ (xn : Int) < 0 := (by omega); go_simp; try with_reducible rfl)
      case b2r7 => (simp only [Act.put, List.setIfInBounds_toArray, List.set_cons_zero, List.set_cons_succ]; rfl)
      refine Rg.op 3 (some 21) hS (v := ?v3r7) (a' := ?a3r7) (hy := fun wz hwz => ?h3r7) (ha := ?b3r7) (h := ?_)
      case h3r7 => (go_simp; try with_reducible rfl)
      case b3r7 => (simp only [Act.put, List.setIfInBounds_toArray, List.set_cons_zero, List.set_cons_succ]; rfl)
      refine Rg.op 4 (some 22) hS (v := ?v4r7) (a' := ?a4r7) (hy := fun wz hwz => ?h4r7) (ha := ?b4r7) (h := ?_)
      case h4r7 => (go_simp; try with_reducible rfl)
      case b4r7 => (simp only [Act.put, List.setIfInBounds_toArray, List.set_cons_zero, List.set_cons_succ]; rfl)
      refine Rg.op 5 (some 23) hS (v := ?v5r7) (a' := ?a5r7) (hy := fun wz hwz => ?h5r7) (ha := ?b5r7) (h := ?_)
      case h5r7 => (have hb := HBx.out.fr hwz (fun h => h); have cc1 := Blk.cell hb 0; have hpp := Blk.lt hb; simp only [List.getElem?_toArray, List.getElem?_cons_zero, List.getElem?_cons_succ] at cc1; clear hb; go_simp; try with_reducible rfl)
      case b5r7 => (simp only [Act.put, List.setIfInBounds_toArray, List.set_cons_zero, List.set_cons_succ]; rfl)
      refine Rg.op 6 (some 24) hS (v := ?v6r7) (a' := ?a6r7) (hy := fun wz hwz => ?h6r7) (ha := ?b6r7) (h := ?_)
      case h6r7 => (go_simp; try with_reducible rfl)
      case b6r7 => (simp only [Act.put, List.setIfInBounds_toArray, List.set_cons_zero, List.set_cons_succ]; rfl)
      refine Rg.op 7 (some 25) hS (v := ?v7r7) (a' := ?a7r7) (hy := fun wz hwz => ?h7r7) (ha := ?b7r7) (h := ?_)
      case h7r7 => (go_simp; try with_reducible rfl)
      case b7r7 => (simp only [Act.put, List.setIfInBounds_toArray, List.set_cons_zero, List.set_cons_succ]; rfl)
      refine Rg.op 8 (some 26) hS (v := ?v8r7) (a' := ?a8r7) (hy := fun wz hwz => ?h8r7) (ha := ?b8r7) (h := ?_)
      case h8r7 => (go_simp; try with_reducible rfl)
      case b8r7 => (simp only [Act.put, List.setIfInBounds_toArray, List.set_cons_zero, List.set_cons_succ]; rfl)
      refine Rg.op 9 (some 27) hS (v := ?v9r7) (a' := ?a9r7) (hy := fun wz hwz => ?h9r7) (ha := ?b9r7) (h := ?_)
      case h9r7 => (have hb := HFa.out.fr hwz (fun h => h); have cc1 := Blk.cell hb 2; have hpp := Blk.lt hb; simp only [List.getElem?_toArray, List.getElem?_cons_zero, List.getElem?_cons_succ] at cc1; clear hb; go_simp; try with_reducible rfl)
      case b9r7 => (simp only [Act.put, List.setIfInBounds_toArray, List.set_cons_zero, List.set_cons_succ]; rfl)
      refine Rg.op 10 (some 28) hS (v := (.bool false)) (a' := ?a10r7) (hy := fun wz hwz => ?h10r7) (ha := ?b10r7) (h := ?_)
      case h10r7 => (have y : ¬ (xn : Int) ≥ (pages : Int) := (by omega); have y2 : ¬ (pages : Int) ≤ (xn : Int) := (by omega); go_simp; try with_reducible rfl)
      case b10r7 => (simp only [Act.put, List.setIfInBounds_toArray, List.set_cons_zero, List.set_cons_succ]; rfl)
      refine Rg.op 11 (some 29) hS (v := ?v11r7) (a' := ?a11r7) (hy := fun wz hwz => ?h11r7) (ha := ?b11r7) (h := ?_)
      case h11r7 => (go_simp; try with_reducible rfl)
      case b11r7 => (simp only [Act.put, List.setIfInBounds_toArray, List.set_cons_zero, List.set_cons_succ]; rfl)
      refine Rg.op 12 (some 30) hS (v := ?v12r7) (a' := ?a12r7) (hy := fun wz hwz => ?h12r7) (ha := ?b12r7) (h := ?_)
      case h12r7 => (go_simp; try with_reducible rfl)
      case b12r7 => (simp only [Act.put, List.setIfInBounds_toArray, List.set_cons_zero, List.set_cons_succ]; rfl)
      refine Rg.op 13 (some 31) hS (v := ?v13r7) (a' := ?a13r7) (hy := fun wz hwz => ?h13r7) (ha := ?b13r7) (h := ?_)
      case h13r7 => (go_simp; try with_reducible rfl)
      case b13r7 => (simp only [Act.put, List.setIfInBounds_toArray, List.set_cons_zero, List.set_cons_succ]; rfl)
      refine Rg.op 14 (some 32) hS (v := ?v14r7) (a' := ?a14r7) (hy := fun wz hwz => ?h14r7) (ha := ?b14r7) (h := ?_)
      case h14r7 => (go_simp; try with_reducible rfl)
      case b14r7 => (simp only [Act.put, List.setIfInBounds_toArray, List.set_cons_zero, List.set_cons_succ]; rfl)
      refine Rg.op 15 (some 33) hS (v := ?v15r7) (a' := ?a15r7) (hy := fun wz hwz => ?h15r7) (ha := ?b15r7) (h := ?_)
      case h15r7 => (have hb := HBx.out.fr hwz (fun h => h); have cc1 := Blk.cell hb 0; have hpp := Blk.lt hb; simp only [List.getElem?_toArray, List.getElem?_cons_zero, List.getElem?_cons_succ] at cc1; clear hb; go_simp; try with_reducible rfl)
      case b15r7 => (simp only [Act.put, List.setIfInBounds_toArray, List.set_cons_zero, List.set_cons_succ]; rfl)
      refine Rg.op 16 (some 34) hS (v := (.bool false)) (a' := ?a16r7) (hy := fun wz hwz => ?h16r7) (ha := ?b16r7) (h := ?_)
      case h16r7 => (have y := lookup_seen (map_fr HMa.out hwz (fun h => h)) (xn : Int) HWf.out; rw [decide_eq_false HNin.out] at y; go_simp; try with_reducible rfl)
      case b16r7 => (simp only [Act.put, List.setIfInBounds_toArray, List.set_cons_zero, List.set_cons_succ]; rfl)
      refine Rg.op 17 (some 35) hS (v := ?v17r7) (a' := ?a17r7) (hy := fun wz hwz => ?h17r7) (ha := ?b17r7) (h := ?_)
      case h17r7 => (go_simp; try with_reducible rfl)
      case b17r7 => (simp only [Act.put, List.setIfInBounds_toArray, List.set_cons_zero, List.set_cons_succ]; rfl)
      refine Rg.op 18 (some 36) hS (v := ?v18r7) (a' := ?a18r7) (hy := fun wz hwz => ?h18r7) (ha := ?b18r7) (h := ?_)
      case h18r7 => (go_simp; try with_reducible rfl)
      case b18r7 => (simp only [Act.put, List.setIfInBounds_toArray, List.set_cons_zero, List.set_cons_succ]; rfl)
      refine Rg.op 19 (some 37) hS (v := ?v19r7) (a' := ?a19r7) (hy := fun wz hwz => ?h19r7) (ha := ?b19r7) (h := ?_)
      case h19r7 => (go_simp; try with_reducible rfl)
      case b19r7 => (simp only [Act.put, List.setIfInBounds_toArray, List.set_cons_zero, List.set_cons_succ]; rfl)
      refine Rg.op 20 (some 38) hS (v := ?v20r7) (a' := ?a20r7) (hy := fun wz hwz => ?h20r7) (ha := ?b20r7) (h := ?_)
      case h20r7 => (have hb := HBx.out.fr hwz (fun h => h); have cc1 := Blk.cell hb 2; have hpp := Blk.lt hb; simp only [List.getElem?_toArray, List.getElem?_cons_zero, List.getElem?_cons_succ] at cc1; clear hb; go_simp; try with_reducible rfl)
      case b20r7 => (simp only [Act.put, List.setIfInBounds_toArray, List.set_cons_zero, List.set_cons_succ]; rfl)
      refine Rg.op 21 (some 39) hS (v := ?v21r7) (a' := ?a21r7) (hy := fun wz hwz => ?h21r7) (ha := ?b21r7) (h := ?_)
      case h21r7 => (have y := qB wz; go_simp; try with_reducible rfl)
      case b21r7 => (simp only [Act.put, List.setIfInBounds_toArray, List.set_cons_zero, List.set_cons_succ]; rfl)
      refine Rg.op 22 (some 40) hS (v := (.bool false)) (a' := ?a22r7) (hy := fun wz hwz => ?h22r7) (ha := ?b22r7) (h := ?_)
      case h22r7 => (go_simp; try with_reducible rfl)
      case b22r7 => (simp only [Act.put, List.setIfInBounds_toArray, List.set_cons_zero, List.set_cons_succ]; rfl)
      refine Rg.op 23 (some 41) hS (v := ?v23r7) (a' := ?a23r7) (hy := fun wz hwz => ?h23r7) (ha := ?b23r7) (h := ?_)
      case h23r7 => (go_simp; try with_reducible rfl)
      case b23r7 => (simp only [Act.put, List.setIfInBounds_toArray, List.set_cons_zero, List.set_cons_succ]; rfl)
      refine Rg.done _ (h := ?_)
      have HFd : Hid (Fr Nob w wa.drew) := HFw.out.drew
      have HMd : Hid (wa.drew.ownsMap (H := Unit) Tryd.prog 3 (plainElem Tryd.prog 4) M k (seenD ((l.take k).map fun x => (x.1.no : Int)))) := map_fr HMa.out hS (fun h => h)
      have hbd := HBx.out.fr hS (fun h => h)
      have cc1 := Blk.cell hbd 0
      have hpp := Blk.lt hbd
      simp only [List.getElem?_toArray, List.getElem?_cons_zero, List.getElem?_cons_succ] at cc1
      obtain ⟨wd, hwd⟩ : ∃ W, wa.drew = W := ⟨_, rfl⟩
      rw [hwd] at HFd HMd hpp cc1 ⊢
      clear hbd hS HBx HFa HMa HFw hwd
      go_wp2_with (at_mapUpdate; refine wpList_mapUpdate_own _ rfl _ _ _ 70 rfl 3 4 (Maps.int_keyed Tryd.underlying3) Tryd.underlying70 _ M k _ rfl HMd.out (by unfold maxLen; omega) _ _ _ rfl rfl (Maps.keyOf_int_mk Tryd.underlying3 HWf.out) _ [] (plainElem_bool Tryd.underlying4 true) ?_; intro w1 hown1 hgrow1; have HO1 := Lib.hid hown1; have HG1 := Lib.hid hgrow1; clear hown1 hgrow1)
      go_roundw
      case rel =>
        refine ⟨k + 1, by omega, by go_num, ?_, ?_⟩
        · have := HO1.out
          rw [← HSn.out] at this
          exact this
        · exact HFd.out.step (fr_of_grown HG1.out) (fun i hi h => by have := HM.out; omega)
      case measure => simp [intOf]; omega
    · obtain rfl : k = n := by omega
      go_wp2
      go_ret
      exact ⟨rfl, hF.out⟩
end Go.Proofs.YtilclfeaolhoeaaDoor
