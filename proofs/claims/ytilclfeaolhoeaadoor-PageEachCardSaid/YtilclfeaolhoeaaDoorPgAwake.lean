/-
  awake of the statements on pages.
-/
import Derived.Test.YtilclfeaolhoeaaDoorPgOpened
namespace Go.Proofs.YtilclfeaolhoeaaDoor
set_option linter.unusedSimpArgs false
set_option linter.unusedVariables false
open Go.RowKit

theorem PgsIn.of_blk {R : Nat → Prop} {w : World} {g : Nat} {xs : List (PgV × Value)} (h : Blk w g 37 (pgCells xs).toArray) (hg : ¬ R g) (hc : ∀ x ∈ xs, PCell R w x.1 x.2) : PgsIn R w (some ⟨g, 0, none⟩) xs := by
  intro _
  refine ⟨g, rfl, hg, fun j x hx => ?_⟩
  obtain ⟨a1, a2, a3⟩ := pgCells_at xs j x hx
  have k1 := h.cell (j * 3)
  have k2 := h.cell (j * 3 + 1)
  have k3 := h.cell (j * 3 + 2)
  rw [List.getElem?_toArray] at k1 k2 k3
  exact ⟨k1.trans a1, k2.trans a2, k3.trans a3, hc x (List.mem_of_getElem? hx)⟩
theorem PCell.mk_ {R : Nat → Prop} {w : World} {g : Nat} {x : PgV} (h : Blk w g 5 (bts x.d).toArray) (hx : x.d.length = 480) (hg : ¬ R g) : PCell R w x (.slice (some ⟨g, 0, none⟩) 480 480) :=
  ⟨g, 0, 480, rfl, ⟨bytesIn_of h, by omega, fun a ha => by injection ha with ha; subst ha; exact h.lt⟩, hg⟩
theorem Open_pst {R : Nat → Prop} {w : World} {d : Nat} {S : DS} {at0 pages T : Nat} {lot : List PgV} {cur : Nat → Option PgV} (hd : DiskOk R w d S) (hst : Still S) (h1 : 1 ≤ pages) (h2 : pages ≤ 4096) (hat2 : at0 ≤ 60000) (hp : PSt S.now at0 pages T lot cur) :
    Calls Tryd.prog 14 #[.pointer (some ⟨d, 0, none⟩), .int .i64 at0, .int .i64 pages] w fun e w' => ∃ p R' S', e = .returned (.tuple #[.pointer (some ⟨p, 0, none⟩), .int .i64 0]) ∧ w.heap.size ≤ p ∧ p < w'.heap.size ∧ FileAt w' p d at0 pages T ∧ DiskOk R' w' d S' ∧ Still S' ∧ PSt S'.now at0 pages T lot cur ∧ ¬ R' p ∧ (∀ b, R' b → R b ∨ w.heap.size ≤ b) ∧ FrD R w w' := by
  obtain ⟨hb, hh, e1, e2⟩ := hp.left
  have hl := hp.laid lot.length
  obtain ⟨o1, o2, o3⟩ := hst.openRun at0 pages hb
  rw [e1, hl] at o3
  refine (Open_run at0 pages hd hst.calm.dead h1 h2 hp.len hh (by rw [hst.waits]; simp) o1 o2.calm.dead (by rw [o3]; exact hp.sound) hat2).mono ?_
  rintro e w' ⟨p, R', rfl, q1, q2, q3, q4, q7, q8, q9⟩
  rw [e2] at q3
  exact ⟨p, R', _, rfl, q1, q2, q3, q4, o2, by rw [o3]; exact hp, q7, q8, q9⟩
theorem New_still (n : Nat) (w : World) (h1 : 8 ≤ n) (h2 : n ≤ 65536) (pages : Nat) (hn : 8 * pages + 80 ≤ n) :
    Calls Tryd.prog 5 #[.int .i64 n] w fun e w' => ∃ d R S, e = .returned (.tuple #[.pointer (some ⟨d, 0, none⟩), .int .i64 0]) ∧ w.heap.size ≤ d ∧ (∀ b, R b → w.heap.size ≤ b) ∧ DiskOk R w' d S ∧ Still S ∧ PSt S.now 0 pages 0 [] (fun _ => none) ∧ Fr Nob w w' := by
  refine (New_good n w h1 h2).mono ?_
  rintro e w' ⟨p, rfl, hp, hd, hf⟩
  exact ⟨p, _, _, rfl, hp, fun b hb => hb.1, hd, Still.new n, PSt.new n 0 pages (by omega), hf⟩

set_option maxHeartbeats 3200000 in
set_option maxRecDepth 100000 in
theorem pgawake_any (w : World) : Calls Tryd.prog 12 #[] w fun e w' => e = .returned (.bool true) ∧ Fr Nob w w' := by
  have HNd : Hid (∀ W, Calls Tryd.prog 6 #[.int .i64 2] W fun e w' => e = .returned (.int .i64 96) ∧ W = w') := fun W => Need_any 2 W (by omega) (by omega)
  have HNw : Hid (∀ W, Calls Tryd.prog 5 #[.int .i64 96] W fun e w' => ∃ d R S, e = .returned (.tuple #[.pointer (some ⟨d, 0, none⟩), .int .i64 0]) ∧ W.heap.size ≤ d ∧ (∀ b, R b → W.heap.size ≤ b) ∧ DiskOk R w' d S ∧ Still S ∧ PSt S.now 0 2 0 [] (fun _ => none) ∧ Fr Nob W w') := fun W => New_still 96 W (by omega) (by omega) 2 (by omega)
  have HOf : Hid (∀ W, Calls Tryd.prog 8 #[.agg #[.int .i64 1, .int .i64 5]] W fun e w' => ∃ g, e = .returned (.agg #[.int .i64 1, .int .u64 5, .slice (some ⟨g, 0, none⟩) 480 480]) ∧ Blk w' g 5 (bts (dataB 5)).toArray ∧ W.heap.size ≤ g ∧ Fr Nob W w') := by
    intro W
    exact of_any 1 5 W
  have HDt : Hid (∀ W, Calls Tryd.prog 16 #[.int .i64 5] W fun e w' => e = .returned (.slice (some ⟨W.heap.size, 0, none⟩) 480 480) ∧ Blk w' W.heap.size 5 (bts (dataB 5)).toArray ∧ Fr Nob W w') := fun W => Data_any 5 W (by omega)
  have hd5 : (dataB 5).length = 480 := dataB_length 5
  go_enter Tryd.func12, Tryd.ntmps12
  go_wp2_with fail
  refine (HNd.out w).mono ?_
  rintro e wz ⟨rfl, rfl⟩
  go_wp2_with fail
  refine (HNw.out w).mono ?_
  rintro e w1 ⟨d, R, S, rfl, hdw, hR, hd1, hst1, hps1, hf1⟩
  have HOp := Lib.hid (Open_pst hd1 hst1 (by omega) (by omega) (by omega) hps1)
  have HR := Lib.hid hR
  have HF1 := Lib.hid hf1
  clear hd1 hst1 hps1 hR hf1 HNw
  go_wp2_with fail
  refine HOp.out.mono ?_
  rintro e w2 ⟨p, R2, S2, rfl, hp1, hp2, hfa2, hd2, hst2, hps2, hnp, hsub, hf2⟩
  have HD2 := Lib.hid hd2
  have HSt2 := Lib.hid hst2
  have HPs2 := Lib.hid hps2
  have HFa2 := Lib.hid hfa2
  have HF2 : Hid (Fr Nob w w2) := HF1.out.step hf2.fr (fun i hi h => by have := HR.out i h; omega)
  have HR2 : Hid (∀ b, R2 b → w.heap.size ≤ b) := fun b hb => by
    rcases hsub b hb with h | h
    · exact HR.out b h
    · have := HF1.out.size; omega
  have HR2l : Hid (∀ b, R2 b → b < w2.heap.size) := fun b hb => hd2.lt hb
  have hpw : w.heap.size ≤ p := by have := HF1.out.size; omega
  clear hd2 hst2 hps2 hfa2 hsub hf2 HOp HR HF1 hp1
  go_wp2_with fail
  refine (HOf.out w2).mono ?_
  rintro e w3 ⟨g3, rfl, hb3, hg3, hf3⟩
  have hb3l := hb3.lt
  have HFx : Fr Nob w2 (w3.alloc (.cells #[.int .i64 1, .int .u64 5, .slice (some ⟨g3, 0, none⟩) 480 480] 37)) := hf3.alloc _
  have hbb : Blk (w3.alloc (.cells #[.int .i64 1, .int .u64 5, .slice (some ⟨g3, 0, none⟩) 480 480] 37)) g3 5 (bts (dataB 5)).toArray := hb3.alloc _
  have hbs : Blk (w3.alloc (.cells #[.int .i64 1, .int .u64 5, .slice (some ⟨g3, 0, none⟩) 480 480] 37)) w3.heap.size 37 (pgCells [(⟨1, 5, dataB 5⟩, .slice (some ⟨g3, 0, none⟩) 480 480)]).toArray := Blk.new _ _ _
  obtain ⟨w4, hw4⟩ : ∃ W, w3.alloc (.cells #[.int .i64 1, .int .u64 5, .slice (some ⟨g3, 0, none⟩) 480 480] 37) = W := ⟨_, rfl⟩
  rw [hw4] at HFx hbb hbs
  have hz3 := hf3.size
  have hz4 := HFx.size
  have hnq : ∀ g, w2.heap.size ≤ g → ¬ (R2 g ∨ g = p) := fun g hg h => by
    rcases h with h | h
    · have := HR2l.out g h; omega
    · omega
  have hpg : PgsIn (fun b => R2 b ∨ b = p) w4 (some ⟨w3.heap.size, 0, none⟩) [(⟨1, 5, dataB 5⟩, .slice (some ⟨g3, 0, none⟩) 480 480)] := by
    refine PgsIn.of_blk hbs (hnq _ hz3) (fun x hx => ?_)
    rw [List.mem_singleton] at hx
    subst hx
    exact PCell.mk_ hbb hd5 (hnq _ hg3)
  have hwr := write_pst (some ⟨w3.heap.size, 0, none⟩) 1 [(⟨1, 5, dataB 5⟩, .slice (some ⟨g3, 0, none⟩) 480 480)] (HFa2.out.fr HFx (fun h => h)) hnp (HD2.out.new HFx) HSt2.out HPs2.out hpg (fun x hx => by
    rw [List.mem_singleton] at hx
    subst hx
    exact ⟨⟨by show 1 < 100000; omega, by show 5 < 18446744073709551616; omega, hd5⟩, by show 1 < 2; omega⟩) (by simp) (by simp) (fun i j x y hx hy _ => by
    have h1 := (List.getElem?_eq_some_iff.1 hx).1
    have h2 := (List.getElem?_eq_some_iff.1 hy).1
    simp only [List.length_cons, List.length_nil] at h1 h2
    omega) (by omega) (by omega) (by omega)
  have HWr := Lib.hid hwr
  have HF4 : Hid (Fr Nob w w4) := HF2.out.trans HFx
  obtain ⟨gs, hgs⟩ : ∃ g, w3.heap.size = g := ⟨_, rfl⟩
  rw [hgs] at HWr
  clear hb3 hf3 HFx hbb hbs hpg hwr hnq hz3 hg3 HFa2 HD2 HSt2 HPs2
  go_wp2_with fail
  try rw [hw4, hgs]
  refine HWr.out.mono ?_
  rintro e w5 ⟨S5, rfl, hd5', hst5, hps5, hfa5, hf5⟩
  clear hw4 hgs
  have HF5 : Hid (Fr Nob w w5) := HF4.out.step hf5 (fun i hi h => by
    rcases h with h | h
    · have := HR2.out i h.1; omega
    · omega)
  have HRd := Lib.hid (pgRead_any 1 hfa5 hd5' hst5.calm.dead hps5.sound (by omega))
  have hpa : pgAt S5.now 0 1 = ⟨1, 5, dataB 5⟩ := pgAt_cur hps5 1 (by omega)
  rw [hpa] at HRd
  clear hd5' hst5 hps5 hfa5 hf5 hpa
  go_wp2_with fail
  refine HRd.out.mono ?_
  rintro e w6 ⟨g, o, rfl, hb6, _, _, hf6⟩
  have hbx : Blk (w6.alloc (.cells #[.int .i64 1, .int .u64 5, .slice (some ⟨g, o, none⟩) 480 480] 37)) w6.heap.size 37 #[.int .i64 1, .int .u64 5, .slice (some ⟨g, o, none⟩) 480 480] := Blk.new _ _ _
  have hba : BytesIn (w6.alloc (.cells #[.int .i64 1, .int .u64 5, .slice (some ⟨g, o, none⟩) 480 480] 37)) (some ⟨g, o, none⟩) (dataB 5) := hb6.new ((Fr.refl _ _).alloc _)
  have hfa : Fr Nob w (w6.alloc (.cells #[.int .i64 1, .int .u64 5, .slice (some ⟨g, o, none⟩) 480 480] 37)) := (HF5.out.trans hf6).alloc _
  obtain ⟨wa, hwa⟩ : ∃ W, w6.alloc (.cells #[.int .i64 1, .int .u64 5, .slice (some ⟨g, o, none⟩) 480 480] 37) = W := ⟨_, rfl⟩
  rw [hwa] at hbx hba hfa
  obtain ⟨gb, hgb⟩ : ∃ s, w6.heap.size = s := ⟨_, rfl⟩
  rw [hgb] at hbx
  have HBx := Lib.hid hbx
  have HBa := Lib.hid hba
  have HFa := Lib.hid hfa
  clear hb6 hf6 hbx hba hfa HRd
  go_wp2
  try rw [hwa]
  try rw [hgb]
  clear hwa hgb
  have hS : Fr Nob wa wa.drew := (Fr.refl _ wa).drew
  refine Rg.begin (Fr Nob wa) [] (by kernel_rfl) ?_
  refine Rg.op 0 (some 40) hS (v := ?v0w) (a' := ?a0w) (hy := fun wz hwz => ?h0w) (ha := ?b0w) (h := ?_)
  case h0w => (go_simp; try with_reducible rfl)
  case b0w => (simp only [Act.put, List.setIfInBounds_toArray, List.set_cons_zero, List.set_cons_succ]; rfl)
  refine Rg.op 1 (some 41) hS (v := ?v1w) (a' := ?a1w) (hy := fun wz hwz => ?h1w) (ha := ?b1w) (h := ?_)
  case h1w => (go_simp; try with_reducible rfl)
  case b1w => (simp only [Act.put, List.setIfInBounds_toArray, List.set_cons_zero, List.set_cons_succ]; rfl)
  refine Rg.op 2 (some 42) hS (v := ?v2w) (a' := ?a2w) (hy := fun wz hwz => ?h2w) (ha := ?b2w) (h := ?_)
  case h2w => (go_simp; try with_reducible rfl)
  case b2w => (simp only [Act.put, List.setIfInBounds_toArray, List.set_cons_zero, List.set_cons_succ]; rfl)
  refine Rg.op 3 (some 43) hS (v := ?v3w) (a' := ?a3w) (hy := fun wz hwz => ?h3w) (ha := ?b3w) (h := ?_)
  case h3w => (go_simp; try with_reducible rfl)
  case b3w => (simp only [Act.put, List.setIfInBounds_toArray, List.set_cons_zero, List.set_cons_succ]; rfl)
  refine Rg.op 4 (some 44) hS (v := ?v4w) (a' := ?a4w) (hy := fun wz hwz => ?h4w) (ha := ?b4w) (h := ?_)
  case h4w => (go_simp; try with_reducible rfl)
  case b4w => (simp only [Act.put, List.setIfInBounds_toArray, List.set_cons_zero, List.set_cons_succ]; rfl)
  refine Rg.op 5 (some 45) hS (v := ?v5w) (a' := ?a5w) (hy := fun wz hwz => ?h5w) (ha := ?b5w) (h := ?_)
  case h5w => (go_simp; try with_reducible rfl)
  case b5w => (simp only [Act.put, List.setIfInBounds_toArray, List.set_cons_zero, List.set_cons_succ]; rfl)
  refine Rg.op 6 (some 46) hS (v := ?v6w) (a' := ?a6w) (hy := fun wz hwz => ?h6w) (ha := ?b6w) (h := ?_)
  case h6w => (go_simp; try with_reducible rfl)
  case b6w => (simp only [Act.put, List.setIfInBounds_toArray, List.set_cons_zero, List.set_cons_succ]; rfl)
  refine Rg.op 7 (some 47) hS (v := ?v7w) (a' := ?a7w) (hy := fun wz hwz => ?h7w) (ha := ?b7w) (h := ?_)
  case h7w => (go_simp; try with_reducible rfl)
  case b7w => (simp only [Act.put, List.setIfInBounds_toArray, List.set_cons_zero, List.set_cons_succ]; rfl)
  refine Rg.op 8 (some 48) hS (v := ?v8w) (a' := ?a8w) (hy := fun wz hwz => ?h8w) (ha := ?b8w) (h := ?_)
  case h8w => (have hb := HBx.out.fr hwz (fun h => h); have cc1 := Blk.cell hb 1; have hpp := Blk.lt hb; simp only [List.getElem?_toArray, List.getElem?_cons_zero, List.getElem?_cons_succ] at cc1; clear hb; go_simp; try with_reducible rfl)
  case b8w => (simp only [Act.put, List.setIfInBounds_toArray, List.set_cons_zero, List.set_cons_succ]; rfl)
  refine Rg.op 9 (some 49) hS (v := ?v9w) (a' := ?a9w) (hy := fun wz hwz => ?h9w) (ha := ?b9w) (h := ?_)
  case h9w => (go_simp; try with_reducible rfl)
  case b9w => (simp only [Act.put, List.setIfInBounds_toArray, List.set_cons_zero, List.set_cons_succ]; rfl)
  refine Rg.op 10 (some 50) hS (v := ?v10w) (a' := ?a10w) (hy := fun wz hwz => ?h10w) (ha := ?b10w) (h := ?_)
  case h10w => (go_simp; try with_reducible rfl)
  case b10w => (simp only [Act.put, List.setIfInBounds_toArray, List.set_cons_zero, List.set_cons_succ]; rfl)
  refine Rg.op 11 (some 51) hS (v := ?v11w) (a' := ?a11w) (hy := fun wz hwz => ?h11w) (ha := ?b11w) (h := ?_)
  case h11w => (go_simp; try with_reducible rfl)
  case b11w => (simp only [Act.put, List.setIfInBounds_toArray, List.set_cons_zero, List.set_cons_succ]; rfl)
  refine Rg.op 12 (some 52) hS (v := ?v12w) (a' := ?a12w) (hy := fun wz hwz => ?h12w) (ha := ?b12w) (h := ?_)
  case h12w => (go_simp; try with_reducible rfl)
  case b12w => (simp only [Act.put, List.setIfInBounds_toArray, List.set_cons_zero, List.set_cons_succ]; rfl)
  refine Rg.op 13 (some 53) hS (v := ?v13w) (a' := ?a13w) (hy := fun wz hwz => ?h13w) (ha := ?b13w) (h := ?_)
  case h13w => (have hb := HBx.out.fr hwz (fun h => h); have cc1 := Blk.cell hb 2; have hpp := Blk.lt hb; simp only [List.getElem?_toArray, List.getElem?_cons_zero, List.getElem?_cons_succ] at cc1; clear hb; go_simp; try with_reducible rfl)
  case b13w => (simp only [Act.put, List.setIfInBounds_toArray, List.set_cons_zero, List.set_cons_succ]; rfl)
  refine Rg.op 14 (some 54) hS (v := ?v14w) (a' := ?a14w) (hy := fun wz hwz => ?h14w) (ha := ?b14w) (h := ?_)
  case h14w => (have y := conv_in (HBa.out.new hwz) 480; rw [hd5] at y; go_simp; try with_reducible rfl)
  case b14w => (simp only [Act.put, List.setIfInBounds_toArray, List.set_cons_zero, List.set_cons_succ]; rfl)
  refine Rg.call 15 (some 55) (hrun := ?h15w) (hcall := HDt.out _) (h := ?_)
  case h15w => (go_simp)
  rintro e wd ⟨rfl, hbd, hfd⟩
  have hSd : Fr Nob wa wd := hS.trans hfd
  have hbi := conv_in (bytesIn_of hbd) 480
  rw [hd5] at hbi
  clear hfd
  obtain ⟨gd, hgd⟩ : ∃ s, wa.drew.heap.size = s := ⟨_, rfl⟩
  rw [hgd] at hbi hbd ⊢
  clear hgd
  refine ⟨_, ?a15w, rfl, ?b15w, (fun _ => hSd), ?_⟩
  case b15w => (simp only [Act.put, List.setIfInBounds_toArray, List.set_cons_zero, List.set_cons_succ]; rfl)
  refine Rg.seq 16 (some 56) hSd (v := ?v16w) (a' := ?a16w) (hrun := ?h16w) (ha := ?b16w) (h := ?_)
  case h16w => (have y := hbi; go_simp; try with_reducible rfl)
  case b16w => (simp only [Act.put, List.setIfInBounds_toArray, List.set_cons_zero, List.set_cons_succ]; rfl)
  refine Rg.seq 17 (some 57) hSd (v := (.bool true)) (a' := ?a17w) (hrun := ?h17w) (ha := ?b17w) (h := ?_)
  case h17w => (go_simp; try with_reducible rfl)
  case b17w => (simp only [Act.put, List.setIfInBounds_toArray, List.set_cons_zero, List.set_cons_succ]; rfl)
  refine Rg.seq 18 (some 58) hSd (v := ?v18w) (a' := ?a18w) (hrun := ?h18w) (ha := ?b18w) (h := ?_)
  case h18w => (go_simp; try with_reducible rfl)
  case b18w => (simp only [Act.put, List.setIfInBounds_toArray, List.set_cons_zero, List.set_cons_succ]; rfl)
  refine Rg.seq 19 (some 59) hSd (v := ?v19w) (a' := ?a19w) (hrun := ?h19w) (ha := ?b19w) (h := ?_)
  case h19w => (go_simp; try with_reducible rfl)
  case b19w => (simp only [Act.put, List.setIfInBounds_toArray, List.set_cons_zero, List.set_cons_succ]; rfl)
  refine Rg.call 20 (some 60) (hrun := ?h20w) (hcall := HNd.out _) (h := ?_)
  case h20w => (go_simp)
  rintro e wn ⟨rfl, rfl⟩
  refine ⟨_, ?a20w, rfl, ?b20w, (fun _ => hSd), ?_⟩
  case b20w => (simp only [Act.put, List.setIfInBounds_toArray, List.set_cons_zero, List.set_cons_succ]; rfl)
  refine Rg.seq 21 (some 61) hSd (v := ?v21w) (a' := ?a21w) (hrun := ?h21w) (ha := ?b21w) (h := ?_)
  case h21w => (go_simp; try with_reducible rfl)
  case b21w => (simp only [Act.put, List.setIfInBounds_toArray, List.set_cons_zero, List.set_cons_succ]; rfl)
  refine Rg.seq 22 (some 62) hSd (v := ?v22w) (a' := ?a22w) (hrun := ?h22w) (ha := ?b22w) (h := ?_)
  case h22w => (go_simp; try with_reducible rfl)
  case b22w => (simp only [Act.put, List.setIfInBounds_toArray, List.set_cons_zero, List.set_cons_succ]; rfl)
  refine Rg.seq 23 (some 0) hSd (v := ?v23w) (a' := ?a23w) (hrun := ?h23w) (ha := ?b23w) (h := ?_)
  case h23w => (go_simp; try with_reducible rfl)
  case b23w => (simp only [Act.put, List.setIfInBounds_toArray, List.set_cons_zero, List.set_cons_succ]; rfl)
  refine Rg.done _ (h := ?_)
  go_wp2
  go_ret
  exact ⟨rfl, HFa.out.trans hSd⟩
end Go.Proofs.YtilclfeaolhoeaaDoor
