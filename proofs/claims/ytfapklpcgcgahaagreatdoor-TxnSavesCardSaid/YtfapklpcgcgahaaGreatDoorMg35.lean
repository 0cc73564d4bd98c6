/-
  TxnW2, TxnUndone, in one text.
-/
import Derived.Test.YtfapklpcgcgahaaGreatDoorMg34
import Derived.Lib.SlBytesConst
/-
  made, awake: a world of the statements on transactions.
-/
namespace Go.Proofs.YtfapklpcgcgahaaGreatDoor
set_option linter.unusedSimpArgs false
set_option linter.unusedVariables false
open Go.RowKit Go.Maps

theorem Row6.at_ {w : World} {base g c : Nat} {C : Pgs} (h : Row6 w base (.slice (some ⟨g, 0, none⟩) 6 c) C) (i : Nat) (hi : i < 6) : w.cell? ⟨g, i, none⟩ = some (tS (C i)) := by
  have h7 := (show w.ownsRow _ 9 1 _ 6 _ from h).cellAt i (by omega)
  rw [h7, List.getElem?_map, List.getElem?_range hi]; rfl
def w6cells (d s : Nat) (log frames : Int) (nv lv : Value) : Array Value := #[.pointer (some ⟨d, 0, none⟩), .pointer (some ⟨s, 0, none⟩), .int .i64 log, .int .i64 frames, nv, lv, .slice none 0 0, .slice none 0 0, .bool false]
/-- A world that was made since w0, its store, and the row of its pages as texts. -/
structure TW (w0 w : World) (RS RO U : Nat → Prop) (g s M K : Nat) (T : TS) (log frames : Int) (nv lv : Value) (N : Pgs) : Prop where
  wld : Blk w g 38 (w6cells T.d s log frames nv lv)
  tx : TxIn RS RO U w s 6 M K T
  now : Row6 w w0.heap.size nv N
  nvb : ∀ b, nv.ownBlock = some b → ¬ All3 RS RO U b
  hi : ∀ b, All3 RS RO U b → w0.heap.size ≤ b
  ng : ¬ All3 RS RO U g
  gg : w0.heap.size ≤ g
  fr : Fr Nob w0 w
section
variable {w0 w w' : World} {RS RO U RS' RO' U' : Nat → Prop} {g s M K : Nat} {T T' : TS} {log frames : Int} {nv lv : Value} {N : Pgs}
theorem TW.new (h : TW w0 w RS RO U g s M K T log frames nv lv N) (hf : Fr Nob w w') : TW w0 w' RS RO U g s M K T log frames nv lv N :=
  ⟨h.wld.fr hf (fun h => h), h.tx.new hf, own_fr h.now hf (fun _ _ h => h), h.nvb, h.hi, h.ng, h.gg, h.fr.trans hf⟩
theorem TW.lt (h : TW w0 w RS RO U g s M K T log frames nv lv N) : g < w.heap.size := h.wld.lt
theorem TW.cs (h : TW w0 w RS RO U g s M K T log frames nv lv N) : w.cell? ⟨g, 1, none⟩ = some (.pointer (some ⟨s, 0, none⟩)) := by
  have := h.wld.cell 1
  simpa [w6cells] using this
theorem TW.cn (h : TW w0 w RS RO U g s M K T log frames nv lv N) : w.cell? ⟨g, 4, none⟩ = some nv := by
  have := h.wld.cell 4
  simpa [w6cells] using this
theorem Subs.fr3 (h : Subs RS RS' RO RO' U U' w w') : Fr (All3 RS RO U) w w' := h.fr.mono (fun _ _ e => e.elim .inl (fun e => .inr (.inr e)))
/-- A call on the store. -/
theorem TW.step (h : TW w0 w RS RO U g s M K T log frames nv lv N) {M' K' : Nat} (ht : TxIn RS' RO' U' w' s 6 M' K' T') (hs : Subs RS RS' RO RO' U U' w w') (hd : T'.d = T.d) : TW w0 w' RS' RO' U' g s M' K' T' log frames nv lv N := by
  have hz := h.fr.size
  have hall : ∀ b, All3 RS' RO' U' b → All3 RS RO U b ∨ w.heap.size ≤ b := fun b hb => by
    rcases hb with hb | hb | hb
    · exact (hs.rs b hb).imp .inl id
    · exact (hs.ro b hb).imp (fun e => .inr (.inl e)) id
    · exact (hs.u b hb).imp (fun e => .inr (.inr e)) id
  refine ⟨by rw [hd]; exact h.wld.fr hs.fr3 h.ng, ht, own_fr h.now hs.fr3 h.nvb, fun b hb e => ?_, fun b hb => ?_, fun e => ?_, h.gg, h.fr.step hs.fr3 (fun i hi e => ?_)⟩
  · rcases hall b e with e | e
    · exact h.nvb b hb e
    · have := own_lt h.now hb; omega
  · rcases hall b hb with e | e
    · exact h.hi b e
    · omega
  · rcases hall g e with e | e
    · exact h.ng e
    · have := h.lt; omega
  · have := h.hi i e; omega
end
set_option maxHeartbeats 3200000 in
set_option maxRecDepth 100000 in
theorem Made6_any (log : Nat) (frames : Int) (w : World) (h3 : 64 ≤ log) (h4 : log ≤ 16384) (h5 : 1 ≤ frames) (h6 : frames ≤ 64) :
    Calls Tryz.prog 14 #[.int .i64 log, .int .i64 frames] w fun e w' => ∃ g s d p l f RS U nv lv, e = .returned (.pointer (some ⟨g, 0, none⟩)) ∧ TW w w' RS (fun _ => False) U g s 0 0 (TS.fresh d p l f 6 log frames) log frames nv lv CZ := by
  have HNe := Lib.hid (NeedT_any 6 log w (by omega) (by omega) (by omega))
  have HNw := Lib.hid (New_good (8 * 6 + 80 + log) w (by omega) (by omega))
  have HBl : Hid (∀ W, Calls Tryz.prog 26 #[] W fun e w' => ∃ v, e = .returned v ∧ Row6 w' W.heap.size v CZ ∧ Fr Nob W w') := Blank6_any
  obtain ⟨nd, hnd⟩ : ∃ x : Nat, 8 * 6 + 80 + log = x := ⟨_, rfl⟩
  rw [hnd] at HNe HNw
  have HNd := Lib.hid hnd
  clear hnd
  go_enter Tryz.func14, Tryz.ntmps14
  go_wp2_with fail
  refine HNe.out.mono ?_
  rintro e w0 ⟨rfl, rfl⟩
  go_wp2_with fail
  refine HNw.out.mono ?_
  rintro e w1 ⟨d, rfl, hd0, hd1, hf1⟩
  have hnd := HNd.out
  have HOp := Lib.hid (OpenT_good (pages := 6) (log := log) (frames := frames) hd1 (by omega) (by omega) h3 h4 h5 h6 (by omega) (by omega))
  have HF1 := Lib.hid hf1
  clear hd1 hf1 HNw hnd
  go_wp2_with fail
  refine HOp.out.mono ?_
  rintro e w2 ⟨s, rfl, p, l, f, RS, U, h2, hRS, hU, hs0, hf2⟩
  have H2 := Lib.hid h2
  have HRS := Lib.hid hRS
  have HU := Lib.hid hU
  have HF2 := Lib.hid hf2
  have hz1 := HF1.out.size
  have hz2 := hf2.size
  clear h2 hRS hU hf2 HOp
  go_wp2_with fail
  refine (HBl.out w2).mono ?_
  rintro e w3 ⟨nv, rfl, hn3, hf3⟩
  obtain ⟨gn, cn, rfl, _⟩ := World.ownsRow.form (show w3.ownsRow w2.heap.size 9 1 nv 6 _ from hn3) (by omega)
  have HN3 := Lib.hid hn3
  have HF3 := Lib.hid hf3
  clear hn3 hf3
  go_wp2_with fail
  refine (HBl.out w3).mono ?_
  rintro e w4 ⟨lv, rfl, hl4, hf4⟩
  obtain ⟨gl, cl, rfl, _⟩ := World.ownsRow.form (show w4.ownsRow w3.heap.size 9 1 lv 6 _ from hl4) (by omega)
  clear hl4
  have HF4 := Lib.hid hf4
  clear hf4
  go_wp2
  have hfa : Fr Nob w4 (w4.alloc (.cells (w6cells d s log frames (.slice (some ⟨gn, 0, none⟩) 6 cn) (.slice (some ⟨gl, 0, none⟩) 6 cl)) 38)) := (Fr.refl _ w4).alloc _
  have hba : Blk (w4.alloc (.cells (w6cells d s log frames (.slice (some ⟨gn, 0, none⟩) 6 cn) (.slice (some ⟨gl, 0, none⟩) 6 cl)) 38)) w4.heap.size 38 (w6cells d s log frames (.slice (some ⟨gn, 0, none⟩) 6 cn) (.slice (some ⟨gl, 0, none⟩) 6 cl)) := Blk.new _ _ _
  have hz3 := HF3.out.size
  have hz4 := HF4.out.size
  have hfr : Fr Nob w (w4.alloc (.cells (w6cells d s log frames (.slice (some ⟨gn, 0, none⟩) 6 cn) (.slice (some ⟨gl, 0, none⟩) 6 cl)) 38)) := (((HF1.out.step HF2.out (fun i hi e => by
    have e : w.heap.size ≤ i := e.1
    omega)).trans HF3.out).trans HF4.out).trans hfa
  have hall : ∀ b, All3 RS (fun _ => False) U b → w.heap.size ≤ b ∧ b < w2.heap.size := fun b hb => by
    rcases hb with hb | hb | hb
    · have := HRS.out b hb; have := H2.out.lts b hb; omega
    · exact hb.elim
    · have h7 := H2.out.ltu b hb
      rcases HU.out b hb with e | e
      · exact ⟨e.1, h7⟩
      · omega
  have hn4 : Row6 (w4.alloc (.cells (w6cells d s log frames (.slice (some ⟨gn, 0, none⟩) 6 cn) (.slice (some ⟨gl, 0, none⟩) 6 cl)) 38)) w2.heap.size (.slice (some ⟨gn, 0, none⟩) 6 cn) CZ := own_fr HN3.out (HF4.out.trans hfa) (fun _ _ h => h)
  go_ret
  exact ⟨w4.heap.size, s, d, p, l, f, RS, U, _, _, rfl, hba, H2.out.new ((HF3.out.trans HF4.out).trans hfa), own_base hn4 (fun b hb => by have := (hn4.lt b hb).1; omega), fun b hb e => by have := (HN3.out.lt b hb).1; have := hall b e; omega, fun b hb => (hall b hb).1, fun e => by have := hall _ e; omega, by omega, hfr⟩
set_option maxHeartbeats 6400000 in
set_option maxRecDepth 100000 in
theorem Awake6_any (w : World) : Calls Tryz.prog 13 #[] w fun e w' => e = .returned (.bool true) ∧ Fr Nob w w' := by
  have kc := fun (w : World) (C : Array Value) (n c : Nat) => Lib.run_convert_bytes_const (P := Tryz.prog) w 40 5 C n c Tryz.underlying40 Tryz.underlying5
  have HMd : Hid (Calls Tryz.prog 14 #[.int .i64 64, .int .i64 2] w fun e w' => ∃ g s d p l f RS U nv lv, e = .returned (.pointer (some ⟨g, 0, none⟩)) ∧ TW w w' RS (fun _ => False) U g s 0 0 (TS.fresh d p l f 6 64 2) (64 : Nat) 2 nv lv CZ) := Made6_any 64 2 w (by omega) (by omega) (by omega) (by omega)
  have HBl : Hid (∀ W, Calls Tryz.prog 26 #[] W fun e w' => ∃ v, e = .returned v ∧ Row6 w' W.heap.size v CZ ∧ Fr Nob W w') := Blank6_any
  go_enter Tryz.func13, Tryz.ntmps13
  go_wp2_with fail
  refine HMd.out.mono ?_
  rintro e w1 ⟨g, s, d, p, l, f, RS1, U1, nv, lv, rfl, hw1⟩
  have hti := TI.fresh d p l f 64 2
  have HBg := Lib.hid (Begin_tb hw1.tx hti (by omega) (by omega))
  have c1 := hw1.cs
  have z1 := hw1.lt
  have HW1 := Lib.hid hw1
  clear hw1 hti HMd
  go_wp2_with fail
  refine HBg.out.mono ?_
  rintro e w2 ⟨rfl, RS2, T2, h2, hb2, hs2⟩
  have hw2 := HW1.out.step h2 hs2 hb2.d
  have hfa : Fr Nob w2 (w2.alloc (.cells #[.int .u8 120] 5 (1, 2))) := (Fr.refl _ w2).alloc _
  have hbi : BytesIn (w2.alloc (.cells #[.int .u8 120] 5 (1, 2))) (some ⟨w2.heap.size, 0, none⟩) [120] := bytesIn_lit w2 [120] (1, 2)
  have hwa := hw2.new hfa
  have hnot : ¬ RS2 w2.heap.size ∧ ¬ (fun _ : Nat => False) w2.heap.size ∧ ¬ U1 w2.heap.size := ⟨fun e => by have := h2.lts _ e; omega, fun h => h, fun e => by have := h2.ltu _ e; omega⟩
  have hwr := Write_tb hwa.tx hb2 0 0 w2.heap.size 0 1 [120] hbi (by simp) hnot (by omega) (by decide) (by omega) (by decide) (by omega) (by decide) (by omega) (by omega)
  have HWr := Lib.hid hwr
  have HWa := Lib.hid hwa
  have HD2 := Lib.hid hb2.d
  have c2 := hw2.cs
  have z2 := hw2.lt
  clear hfa hbi hwa hnot hwr hw2 h2 hb2 hs2 HBg c1 z1 HW1
  go_wp2_with fail
  refine HWr.out.mono ?_
  rintro e w3 ⟨rfl, RS3, RO3, U3, T3, h3, hb3, hs3⟩
  have hw3 := HWa.out.step h3 hs3 (hb3.d.trans HD2.out.symm)
  have HAb := Lib.hid (Abort_tb hw3.tx hb3 (by simp) (by omega) (by omega))
  have c3 := hw3.cs
  have z3 := hw3.lt
  have HW3 := Lib.hid hw3
  have HD3 := Lib.hid hb3.d
  clear h3 hb3 hs3 hw3 HWr HWa HD2 c2 z2
  go_wp2_with fail
  refine HAb.out.mono ?_
  rintro e w4 ⟨rfl, RS4, U4, T4, h4, hb4, hs4⟩
  have hw4 := HW3.out.step h4 hs4 (hb4.d.trans HD3.out.symm)
  have hfa : Fr Nob w4 (w4.alloc (.cells #[.int .u8 120] 5 (1, 2))) := (Fr.refl _ w4).alloc _
  have hwa := hw4.new hfa
  have HWi := Lib.hid (Write_idle hwa.tx hb4.busy 0 0 (some ⟨w4.heap.size, 0, none⟩) 1 1)
  have c4 := hw4.cs
  have z4 := hw4.lt
  have c5 := hwa.cs
  have z5 := hwa.lt
  have HW5 := Lib.hid hwa
  have HPg4 := Lib.hid hb4.pages
  have HBz4 := Lib.hid hb4.busy
  clear h4 hb4 hs4 hw4 hfa hwa HAb HW3 HD3 c3 z3
  go_wp2_with fail
  refine HWi.out.mono ?_
  rintro e w5 ⟨rfl, rfl⟩
  obtain ⟨w5, hw5⟩ : ∃ W, w4.alloc (.cells #[.int .u8 120] 5 (1, 2)) = W := ⟨_, rfl⟩
  rw [hw5] at HW5 c5 z5 ⊢
  clear hw5 HWi c4 z4
  go_wp2_with fail
  have hS : Fr (All3 RS4 RO3 U4) w5 w5.drew := (Fr.refl _ w5).drew
  have hSn : Fr Nob w5 w5.drew := (Fr.refl _ w5).drew
  have hng := HW5.out.ng
  refine Rg.begin (Fr (All3 RS4 RO3 U4) w5) [] (by kernel_rfl) ?_
  refine Rg.op 0 (some 33) hS (v := ?v0a) (a' := ?a0a) (hy := fun wz hwz => ?h0a) (ha := ?b0a) (h := ?_)
  case h0a => (go_simp; try with_reducible rfl)
  case b0a => (simp only [Act.put, List.setIfInBounds_toArray, List.set_cons_zero, List.set_cons_succ]; rfl)
  refine Rg.op 1 (some 34) hS (v := ?v1a) (a' := ?a1a) (hy := fun wz hwz => ?h1a) (ha := ?b1a) (h := ?_)
  case h1a => (go_simp; try with_reducible rfl)
  case b1a => (simp only [Act.put, List.setIfInBounds_toArray, List.set_cons_zero, List.set_cons_succ]; rfl)
  refine Rg.op 2 (some 35) hS (v := ?v2a) (a' := ?a2a) (hy := fun wz hwz => ?h2a) (ha := ?b2a) (h := ?_)
  case h2a => (go_simp; try with_reducible rfl)
  case b2a => (simp only [Act.put, List.setIfInBounds_toArray, List.set_cons_zero, List.set_cons_succ]; rfl)
  refine Rg.op 3 (some 36) hS (v := ?v3a) (a' := ?a3a) (hy := fun wz hwz => ?h3a) (ha := ?b3a) (h := ?_)
  case h3a => (go_simp; try with_reducible rfl)
  case b3a => (simp only [Act.put, List.setIfInBounds_toArray, List.set_cons_zero, List.set_cons_succ]; rfl)
  refine Rg.op 4 (some 37) hS (v := ?v4a) (a' := ?a4a) (hy := fun wz hwz => ?h4a) (ha := ?b4a) (h := ?_)
  case h4a => (go_simp; try with_reducible rfl)
  case b4a => (simp only [Act.put, List.setIfInBounds_toArray, List.set_cons_zero, List.set_cons_succ]; rfl)
  refine Rg.op 5 (some 38) hS (v := ?v5a) (a' := ?a5a) (hy := fun wz hwz => ?h5a) (ha := ?b5a) (h := ?_)
  case h5a => (go_simp; try with_reducible rfl)
  case b5a => (simp only [Act.put, List.setIfInBounds_toArray, List.set_cons_zero, List.set_cons_succ]; rfl)
  refine Rg.op 6 (some 39) hS (v := ?v6a) (a' := ?a6a) (hy := fun wz hwz => ?h6a) (ha := ?b6a) (h := ?_)
  case h6a => (go_simp; try with_reducible rfl)
  case b6a => (simp only [Act.put, List.setIfInBounds_toArray, List.set_cons_zero, List.set_cons_succ]; rfl)
  refine Rg.op 7 (some 40) hS (v := ?v7a) (a' := ?a7a) (hy := fun wz hwz => ?h7a) (ha := ?b7a) (h := ?_)
  case h7a => (go_simp; try with_reducible rfl)
  case b7a => (simp only [Act.put, List.setIfInBounds_toArray, List.set_cons_zero, List.set_cons_succ]; rfl)
  refine Rg.op 8 (some 41) hS (v := ?v8a) (a' := ?a8a) (hy := fun wz hwz => ?h8a) (ha := ?b8a) (h := ?_)
  case h8a => (go_simp; try with_reducible rfl)
  case b8a => (simp only [Act.put, List.setIfInBounds_toArray, List.set_cons_zero, List.set_cons_succ]; rfl)
  refine Rg.op 9 (some 42) hS (v := ?v9a) (a' := ?a9a) (hy := fun wz hwz => ?h9a) (ha := ?b9a) (h := ?_)
  case h9a => (go_simp; try with_reducible rfl)
  case b9a => (simp only [Act.put, List.setIfInBounds_toArray, List.set_cons_zero, List.set_cons_succ]; rfl)
  refine Rg.op 10 (some 43) hS (v := ?v10a) (a' := ?a10a) (hy := fun wz hwz => ?h10a) (ha := ?b10a) (h := ?_)
  case h10a => (go_simp; try with_reducible rfl)
  case b10a => (simp only [Act.put, List.setIfInBounds_toArray, List.set_cons_zero, List.set_cons_succ]; rfl)
  refine Rg.op 11 (some 44) hS (v := ?v11a) (a' := ?a11a) (hy := fun wz hwz => ?h11a) (ha := ?b11a) (h := ?_)
  case h11a => (go_simp; try with_reducible rfl)
  case b11a => (simp only [Act.put, List.setIfInBounds_toArray, List.set_cons_zero, List.set_cons_succ]; rfl)
  refine Rg.op 12 (some 45) hS (v := ?v12a) (a' := ?a12a) (hy := fun wz hwz => ?h12a) (ha := ?b12a) (h := ?_)
  case h12a => (go_simp; try with_reducible rfl)
  case b12a => (simp only [Act.put, List.setIfInBounds_toArray, List.set_cons_zero, List.set_cons_succ]; rfl)
  refine Rg.op 13 (some 46) hS (v := ?v13a) (a' := ?a13a) (hy := fun wz hwz => ?h13a) (ha := ?b13a) (h := ?_)
  case h13a => (go_simp; try with_reducible rfl)
  case b13a => (simp only [Act.put, List.setIfInBounds_toArray, List.set_cons_zero, List.set_cons_succ]; rfl)
  refine Rg.op 14 (some 47) hS (v := ?v14a) (a' := ?a14a) (hy := fun wz hwz => ?h14a) (ha := ?b14a) (h := ?_)
  case h14a => (go_simp; try with_reducible rfl)
  case b14a => (simp only [Act.put, List.setIfInBounds_toArray, List.set_cons_zero, List.set_cons_succ]; rfl)
  refine Rg.op 15 (some 48) hS (v := ?v15a) (a' := ?a15a) (hy := fun wz hwz => ?h15a) (ha := ?b15a) (h := ?_)
  case h15a => (go_simp; try with_reducible rfl)
  case b15a => (simp only [Act.put, List.setIfInBounds_toArray, List.set_cons_zero, List.set_cons_succ]; rfl)
  refine Rg.op 16 (some 49) hS (v := ?v16a) (a' := ?a16a) (hy := fun wz hwz => ?h16a) (ha := ?b16a) (h := ?_)
  case h16a => (have hpp := Nat.lt_of_lt_of_le z5 hwz.size; go_simp; try with_reducible rfl)
  case b16a => (simp only [Act.put, List.setIfInBounds_toArray, List.set_cons_zero, List.set_cons_succ]; rfl)
  refine Rg.op 17 (some 50) hS (v := ?v17a) (a' := ?a17a) (hy := fun wz hwz => ?h17a) (ha := ?b17a) (h := ?_)
  case h17a => (have hpp := Nat.lt_of_lt_of_le z5 hwz.size; go_simp; try with_reducible rfl)
  case b17a => (simp only [Act.put, List.setIfInBounds_toArray, List.set_cons_zero, List.set_cons_succ]; rfl)
  refine Rg.op 18 (some 51) hS (v := (.pointer (some ⟨s, 0, none⟩))) (a' := ?a18a) (hy := fun wz hwz => ?h18a) (ha := ?b18a) (h := ?_)
  case h18a => (have cx := (hwz.cell (p := ⟨g, 1, none⟩) z5 hng).trans c5; have hpp := Nat.lt_of_lt_of_le z5 hwz.size; go_simp; try with_reducible rfl)
  case b18a => (simp only [Act.put, List.setIfInBounds_toArray, List.set_cons_zero, List.set_cons_succ]; rfl)
  refine Rg.call 19 (some 52) (hrun := ?h19a) (hcall := HBl.out _) (h := ?_)
  case h19a => (go_simp)
  rintro e w6 ⟨bv, rfl, hbr, hf6⟩
  have hN6 : Fr Nob w5 w6 := hSn.trans hf6
  have hS6 : Fr (All3 RS4 RO3 U4) w5 w6 := hN6.mono (fun _ _ h => h.elim)
  obtain ⟨gb, cb, rfl, hgb1, hgb2⟩ := World.ownsRow.form (show w6.ownsRow _ 9 1 bv 6 _ from hbr) (by omega)
  have HBr := Lib.hid hbr
  clear hbr hf6
  refine ⟨_, ?a19a, rfl, ?b19a, (fun _ => hS6), ?_⟩
  case b19a => (simp only [Act.put, List.setIfInBounds_toArray, List.set_cons_zero, List.set_cons_succ]; rfl)
  have h6 := HW5.out.tx.new hN6
  have hgbz : w5.heap.size ≤ gb := hgb1
  have hst := Stands_tx h6 gb cb (fun i hi => by rw [congrFun HPg4.out i]; exact Row6.at_ HBr.out i hi) (fun e => by have := HW5.out.tx.lts gb e; omega) (fun e => by have := HW5.out.tx.ltu gb e; omega) (by omega)
  have HSt := Lib.hid hst
  clear hst h6
  refine Rg.call 20 (some 53) (hrun := ?h20a) (hcall := HSt.out) (h := ?_)
  case h20a => (go_simp)
  rintro e w7 ⟨rfl, U7, h7, hs7⟩
  have hS7 : Fr (All3 RS4 RO3 U4) w5 w7 := hS6.trans hs7.fr3
  have H7 := Lib.hid h7
  clear h7 hs7 HSt
  refine ⟨_, ?a20a, rfl, ?b20a, (fun _ => hS7), ?_⟩
  case b20a => (simp only [Act.put, List.setIfInBounds_toArray, List.set_cons_zero, List.set_cons_succ]; rfl)
  refine Rg.op 21 (some 54) hS7 (v := ?v21a) (a' := ?a21a) (hy := fun wz hwz => ?h21a) (ha := ?b21a) (h := ?_)
  case h21a => (go_simp; try with_reducible rfl)
  case b21a => (simp only [Act.put, List.setIfInBounds_toArray, List.set_cons_zero, List.set_cons_succ]; rfl)
  refine Rg.op 22 (some 55) hS7 (v := ?v22a) (a' := ?a22a) (hy := fun wz hwz => ?h22a) (ha := ?b22a) (h := ?_)
  case h22a => (go_simp; try with_reducible rfl)
  case b22a => (simp only [Act.put, List.setIfInBounds_toArray, List.set_cons_zero, List.set_cons_succ]; rfl)
  refine Rg.op 23 (some 56) hS7 (v := ?v23a) (a' := ?a23a) (hy := fun wz hwz => ?h23a) (ha := ?b23a) (h := ?_)
  case h23a => (go_simp; try with_reducible rfl)
  case b23a => (simp only [Act.put, List.setIfInBounds_toArray, List.set_cons_zero, List.set_cons_succ]; rfl)
  refine Rg.op 24 (some 57) hS7 (v := ?v24a) (a' := ?a24a) (hy := fun wz hwz => ?h24a) (ha := ?b24a) (h := ?_)
  case h24a => (have hpp := Nat.lt_of_lt_of_le z5 hwz.size; go_simp; try with_reducible rfl)
  case b24a => (simp only [Act.put, List.setIfInBounds_toArray, List.set_cons_zero, List.set_cons_succ]; rfl)
  refine Rg.op 25 (some 58) hS7 (v := ?v25a) (a' := ?a25a) (hy := fun wz hwz => ?h25a) (ha := ?b25a) (h := ?_)
  case h25a => (have hpp := Nat.lt_of_lt_of_le z5 hwz.size; go_simp; try with_reducible rfl)
  case b25a => (simp only [Act.put, List.setIfInBounds_toArray, List.set_cons_zero, List.set_cons_succ]; rfl)
  refine Rg.op 26 (some 59) hS7 (v := (.pointer (some ⟨s, 0, none⟩))) (a' := ?a26a) (hy := fun wz hwz => ?h26a) (ha := ?b26a) (h := ?_)
  case h26a => (have cx := (hwz.cell (p := ⟨g, 1, none⟩) z5 hng).trans c5; have hpp := Nat.lt_of_lt_of_le z5 hwz.size; go_simp; try with_reducible rfl)
  case b26a => (simp only [Act.put, List.setIfInBounds_toArray, List.set_cons_zero, List.set_cons_succ]; rfl)
  have HBu := Lib.hid (Busy_tx H7.out)
  refine Rg.call 27 (some 60) (hrun := ?h27a) (hcall := HBu.out) (h := ?_)
  case h27a => (go_simp)
  rintro e w8 ⟨rfl, rfl⟩
  refine ⟨_, ?a27a, rfl, ?b27a, (fun _ => hS7), ?_⟩
  case b27a => (simp only [Act.put, List.setIfInBounds_toArray, List.set_cons_zero, List.set_cons_succ]; rfl)
  refine Rg.op 28 (some 61) hS7 (v := ?v28a) (a' := ?a28a) (hy := fun wz hwz => ?h28a) (ha := ?b28a) (h := ?_)
  case h28a => (go_simp; try with_reducible rfl)
  case b28a => (simp only [Act.put, List.setIfInBounds_toArray, List.set_cons_zero, List.set_cons_succ]; rfl)
  refine Rg.op 29 (some 62) hS7 (v := ?v29a) (a' := ?a29a) (hy := fun wz hwz => ?h29a) (ha := ?b29a) (h := ?_)
  case h29a => (go_simp; try with_reducible rfl)
  case b29a => (simp only [Act.put, List.setIfInBounds_toArray, List.set_cons_zero, List.set_cons_succ]; rfl)
  refine Rg.op 30 (some 0) hS7 (v := ?v30a) (a' := ?a30a) (hy := fun wz hwz => ?h30a) (ha := ?b30a) (h := ?_)
  case h30a => (go_simp; try with_reducible rfl)
  case b30a => (simp only [Act.put, List.setIfInBounds_toArray, List.set_cons_zero, List.set_cons_succ]; rfl)
  refine Rg.done _ (h := ?_)
  go_wp2
  go_ret
  refine ⟨by show Ending.returned (Value.bool (!T4.busy)) = _; rw [HBz4.out]; rfl, HW5.out.fr.step hS7 (fun i hi e => ?_)⟩
  have := HW5.out.hi i e
  omega
end Go.Proofs.YtfapklpcgcgahaaGreatDoor

/-
  TxnUndone returns true.
-/
namespace Go.Proofs.YtfapklpcgcgahaaGreatDoor
set_option linter.unusedSimpArgs false
set_option linter.unusedVariables false
open Go.RowKit Go.Maps

theorem i64_and7 (n : Int) : bits .and .i64 n 7 = n % 8 := by
  have := i64_mask n 7 3 (by decide) (by decide) (by decide)
  simpa using this
/-- A world whose variable lies in a block of its own. -/
structure UW (w0 w : World) (RS RO U : Nat → Prop) (gw g s M K : Nat) (T : TS) (log frames : Int) (nv lv : Value) (N : Pgs) : Prop where
  tw : TW w0 w RS RO U g s M K T log frames nv lv N
  var : Blk w gw 32 #[.pointer (some ⟨g, 0, none⟩)]
  nvar : ¬ All3 RS RO U gw
  lvar : w0.heap.size ≤ gw
section
variable {w0 w w' : World} {RS RO U RS' RO' U' : Nat → Prop} {gw g s M K : Nat} {T T' : TS} {log frames : Int} {nv lv : Value} {N : Pgs}
theorem Subs.keep (hs : Subs RS RS' RO RO' U U' w w') {b : Nat} (hb : ¬ All3 RS RO U b) (hlt : b < w.heap.size) : ¬ All3 RS' RO' U' b := fun e => by
  rcases e with e | e | e
  · rcases hs.rs b e with e | e
    · exact hb (.inl e)
    · omega
  · rcases hs.ro b e with e | e
    · exact hb (.inr (.inl e))
    · omega
  · rcases hs.u b e with e | e
    · exact hb (.inr (.inr e))
    · omega
theorem UW.new (h : UW w0 w RS RO U gw g s M K T log frames nv lv N) (hf : Fr Nob w w') : UW w0 w' RS RO U gw g s M K T log frames nv lv N :=
  ⟨h.tw.new hf, h.var.fr hf (fun h => h), h.nvar, h.lvar⟩
theorem UW.step (h : UW w0 w RS RO U gw g s M K T log frames nv lv N) {M' K' : Nat} (ht : TxIn RS' RO' U' w' s 6 M' K' T') (hs : Subs RS RS' RO RO' U U' w w') (hd : T'.d = T.d) : UW w0 w' RS' RO' U' gw g s M' K' T' log frames nv lv N :=
  ⟨h.tw.step ht hs hd, h.var.fr hs.fr3 h.nvar, hs.keep h.nvar h.var.lt, h.lvar⟩
theorem UW.cv (h : UW w0 w RS RO U gw g s M K T log frames nv lv N) : w.cell? ⟨gw, 0, none⟩ = some (.pointer (some ⟨g, 0, none⟩)) := by
  have := h.var.cell 0
  simpa using this
end
set_option maxHeartbeats 3200000 in
set_option maxRecDepth 100000 in
theorem UndW_any {w0 w : World} {RS RO U : Nat → Prop} {gw g s M K : Nat} {T : TS} {log frames : Int} {nv lv : Value} {N : Pgs} {d logn : Nat} {C B : Pgs} {svs : List (Nat × Nat × Pgs)} {n last undone : Nat} {q : Int} (m : Nat)
    (h : UW w0 w RS RO U gw g s M K T log frames nv lv N) (hb : TB T d logn C B svs n last undone q) (hm : m ≤ 7) (hq : 59 * (m : Int) ≤ q) (hK : K + 7 ≤ 400000) (hM : M + 21 ≤ 1000000000000000000) :
    Calls Tryz.prog 23 #[.int .i64 m, .pointer (some ⟨gw, 0, none⟩)] w fun e w' => e = .returned (.bool true) ∧ ∃ RS' RO' U' T' C', UW w0 w' RS' RO' U' gw g s (M + 3 * m) (K + m) T' log frames nv lv N ∧ TB T' d logn C' B svs (n + m) last undone (q - 59 * (m : Int)) := by
  have H := Lib.hid h
  have HB := Lib.hid hb
  clear h hb
  go_enter Tryz.func23, Tryz.ntmps23
  go_wp2
  go_loopw [4] (fun i wr => ∃ k : Nat, k ≤ m ∧ i = .int .i64 k ∧ Hid (∃ RS' RO' U' T' C', UW w0 wr RS' RO' U' gw g s (M + 3 * k) (K + k) T' log frames nv lv N ∧ TB T' d logn C' B svs (n + k) last undone (q - 59 * (k : Int)))) (fun i _ => m - (intOf i).toNat)
  case atStart => exact ⟨0, by omega, rfl, RS, RO, U, T, C, H.out, by simpa using HB.out⟩
  case round =>
    obtain ⟨k, hk, rfl, hX⟩ := hrel
    by_cases hlt : k < m
    · obtain ⟨RS1, RO1, U1, T1, C1, h1, hb1⟩ := hX.out
      have c0 := h1.cv
      have c1 := h1.tw.cs
      have z0 := h1.var.lt
      have z1 := h1.tw.lt
      have hfa : Fr Nob wr (wr.alloc (.cells #[.int .u8 ((k : Int) + 1)] 5)) := (Fr.refl _ wr).alloc _
      have hbb : BytesIn (wr.alloc (.cells #[.int .u8 ((k : Int) + 1)] 5)) (some ⟨wr.heap.size, 0, none⟩) [UInt8.ofNat (k + 1)] := by
        have := bytesIn_lit wr [UInt8.ofNat (k + 1)] (0, 0)
        have e : (bts [UInt8.ofNat (k + 1)]).toArray = #[Value.int .u8 ((k : Int) + 1)] := by
          show #[Value.int .u8 (((UInt8.ofNat (k + 1)).toNat : Nat) : Int)] = _
          rw [ofNat_toNat (by omega)]; rfl
        rwa [e] at this
      have ha := h1.new hfa
      have hnot : ¬ RS1 wr.heap.size ∧ ¬ RO1 wr.heap.size ∧ ¬ U1 wr.heap.size := ⟨fun e => by have := h1.tw.tx.lts _ e; omega, fun e => by have := h1.tw.tx.lto _ e; omega, fun e => by have := h1.tw.tx.ltu _ e; omega⟩
      have hwr := Write_tb ha.tw.tx hb1 (k % 6) k wr.heap.size 0 1 [UInt8.ofNat (k + 1)] hbb (by simp) hnot (by omega) (by simp; omega) (by omega) (by simp) (by omega) (by simp; omega) (by omega) (by omega)
      simp only [List.length_singleton] at hwr
      have HWr := Lib.hid hwr
      have HA := Lib.hid ha
      have HD := Lib.hid hb1.d
      obtain ⟨k6, hk6⟩ : ∃ x : Nat, k % 6 = x := ⟨_, rfl⟩
      have hk6b : k6 < 6 := by omega
      have e1 : (k : Int).tmod 6 = (k6 : Int) := by rw [Int.tmod_eq_emod_of_nonneg (by omega)]; omega
      have e0 : IntKind.i64.wrap ((k : Int).tmod 6) = (k6 : Int) := by rw [e1, IntKind.wrap_i64]; omega
      have e2 : (k : Int) % 6 = (k6 : Int) := by omega
      rw [hk6] at HWr
      clear hk6
      have e3 : IntKind.u8.wrap ((k : Int) + 1) = (k : Int) + 1 := by show ((k : Int) + 1) % 256 = _; omega
      clear hX h1 hb1 hfa hbb ha hnot hwr
      go_wp2_with fail
      refine HWr.out.mono ?_
      rintro e w2 ⟨rfl, RS2, RO2, U2, T2, h2, hb2, hs2⟩
      have hu2 := HA.out.step h2 hs2 (hb2.d.trans HD.out.symm)
      have hnew : ∃ RS' RO' U' T' C', UW w0 w2 RS' RO' U' gw g s (M + 3 * (k + 1)) (K + (k + 1)) T' log frames nv lv N ∧ TB T' d logn C' B svs (n + (k + 1)) last undone (q - 59 * ((k + 1 : Nat) : Int)) := by
        have e1 : q - 59 * (k : Int) - (56 + 3 * ((1 : Nat) : Int)) = q - 59 * ((k + 1 : Nat) : Int) := by omega
        have e2 : M + 3 * k + 3 = M + 3 * (k + 1) := by omega
        rw [e1] at hb2
        rw [e2] at hu2
        exact ⟨RS2, RO2, U2, T2, _, hu2, hb2⟩
      have HNew := Lib.hid hnew
      clear h2 hb2 hs2 hu2 hnew HWr HA HD
      go_wp2
      go_roundw
      case rel => exact ⟨k + 1, by omega, by go_num, HNew⟩
      case measure => simp [intOf]; omega
    · obtain rfl : k = m := by omega
      have HX := Lib.hid hX.out
      clear hX
      go_wp2
      go_ret
      exact ⟨rfl, HX.out⟩
theorem TxIn.all3lt {RS RO U : Nat → Prop} {w : World} {s pages M K : Nat} {T : TS} (h : TxIn RS RO U w s pages M K T) {b : Nat} (hb : All3 RS RO U b) : b < w.heap.size := by
  rcases hb with hb | hb | hb
  · exact h.lts b hb
  · exact h.lto b hb
  · exact h.ltu b hb
theorem and7 (a : Int) : ∃ k : Nat, bits .and .i64 a 7 = (k : Int) ∧ k ≤ 7 := ⟨(a % 8).toNat, by rw [i64_and7]; omega, by omega⟩
set_option maxHeartbeats 6400000 in
set_option maxRecDepth 100000 in
theorem TxnUndone_row (a b c : Int) (w : World) : Calls Tryz.prog 5 #[.int .i64 a, .int .i64 b, .int .i64 c] w fun e w' => e = .returned (.bool true) ∧ Fr Nob w w' := by
  obtain ⟨a', ha, ha7⟩ := and7 a
  obtain ⟨b', hb, hb7⟩ := and7 b
  obtain ⟨c', hc, hc7⟩ := and7 c
  have HMd : Hid (Calls Tryz.prog 14 #[.int .i64 2048, .int .i64 2] w fun e w' => ∃ g s d p l f RS U nv lv, e = .returned (.pointer (some ⟨g, 0, none⟩)) ∧ TW w w' RS (fun _ => False) U g s 0 0 (TS.fresh d p l f 6 2048 2) (2048 : Nat) 2 nv lv CZ) := Made6_any 2048 2 w (by omega) (by omega) (by omega) (by omega)
  have HBl : Hid (∀ W, Calls Tryz.prog 26 #[] W fun e w' => ∃ v, e = .returned v ∧ Row6 w' W.heap.size v CZ ∧ Fr Nob W w') := Blank6_any
  have HAw : Hid (∀ W, Calls Tryz.prog 13 #[] W fun e w' => e = .returned (.bool true) ∧ Fr Nob W w') := Awake6_any
  go_enter Tryz.func5, Tryz.ntmps5
  go_wp2_with fail
  refine HMd.out.mono ?_
  rintro e w1 ⟨g, s, d, p, l, f, RS1, U1, nv, lv, rfl, hw1⟩
  have hfa : Fr Nob w1 (w1.alloc (.cells #[.pointer (some ⟨g, 0, none⟩)] 32)) := (Fr.refl _ w1).alloc _
  have hba : Blk (w1.alloc (.cells #[.pointer (some ⟨g, 0, none⟩)] 32)) w1.heap.size 32 #[.pointer (some ⟨g, 0, none⟩)] := Blk.new _ _ _
  obtain ⟨gw, hgw⟩ : ∃ x, w1.heap.size = x := ⟨_, rfl⟩
  obtain ⟨wa, hwa⟩ : ∃ W, w1.alloc (.cells #[.pointer (some ⟨g, 0, none⟩)] 32) = W := ⟨_, rfl⟩
  rw [hwa] at hfa hba
  rw [hgw] at hba
  have hua : UW w wa RS1 (fun _ => False) U1 gw g s 0 0 (TS.fresh d p l f 6 2048 2) (2048 : Nat) 2 nv lv CZ := ⟨hw1.new hfa, hba, fun e => by have := hw1.tx.all3lt e; omega, by have := hw1.fr.size; omega⟩
  have hti := TI.fresh d p l f 2048 2
  have hun := Undone_tx hua.tw.tx
  have e0 : (TS.fresh d p l f 6 2048 2).undone = 0 := rfl
  rw [e0] at hun
  have HUn := Lib.hid hun
  have HBg := Lib.hid (Begin_tb hua.tw.tx hti (by omega) (by omega))
  have a0 := hua.cv
  have z0 := hua.var.lt
  have a1 := hua.tw.cs
  have z1 := hua.tw.lt
  have HUa := Lib.hid hua
  clear hfa hba hua hti hun e0 hw1 HMd
  go_wp2_with fail
  refine HUn.out.mono ?_
  rintro e w0 ⟨rfl, rfl⟩
  go_wp2_with fail
  refine HBg.out.mono ?_
  rintro e w2 ⟨rfl, RS2, T2, h2, hb2, hs2⟩
  have hu2 := HUa.out.step h2 hs2 hb2.d
  have a0 := hu2.cv
  have z0 := hu2.var.lt
  have a1 := hu2.tw.cs
  have z1 := hu2.tw.lt
  have HCa := Lib.hid (UndW_any a' hu2 hb2 ha7 (by omega) (by omega) (by omega))
  clear h2 hb2 hs2 hu2 HUn HBg HUa
  go_wp2_with fail
  refine HCa.out.mono ?_
  rintro e w3 ⟨rfl, RS3, RO3, U3, T3, C3, hu3, hb3⟩
  rw [Nat.zero_add] at hb3
  have hsv := Save_tb hu3.tw.tx hb3 (by omega)
  have a0 := hu3.cv
  have z0 := hu3.var.lt
  have a1 := hu3.tw.cs
  have z1 := hu3.tw.lt
  have HSv := Lib.hid hsv
  have HU3 := Lib.hid hu3
  have HD3 := Lib.hid hb3.d
  clear hu3 hb3 hsv HCa
  go_wp2_with fail
  refine HSv.out.mono ?_
  rintro e w4 ⟨rfl, RS4, T4, h4, hb4, hs4⟩
  have hu4 := HU3.out.step h4 hs4 (hb4.d.trans HD3.out.symm)
  have a0 := hu4.cv
  have z0 := hu4.var.lt
  have a1 := hu4.tw.cs
  have z1 := hu4.tw.lt
  have HCb := Lib.hid (UndW_any b' hu4 hb4 hb7 (by omega) (by omega) (by omega))
  clear h4 hb4 hs4 hu4 HSv HU3 HD3
  go_wp2_with fail
  refine HCb.out.mono ?_
  rintro e w5 ⟨rfl, RS5, RO5, U5, T5, C5, hu5, hb5⟩
  have hbk := BackS_tb hu5.tw.tx hb5 1 (by omega) (by omega) (by omega)
  have a0 := hu5.cv
  have z0 := hu5.var.lt
  have a1 := hu5.tw.cs
  have z1 := hu5.tw.lt
  have HBk := Lib.hid hbk
  have HU5 := Lib.hid hu5
  have HD5 := Lib.hid hb5.d
  clear hu5 hb5 hbk HCb
  go_wp2_with fail
  refine HBk.out.mono ?_
  rintro e w6 (⟨i6, at6, W6, RS6, U6, T6, hi6, _, rfl, h6, hb6, hs6⟩ | ⟨hno, _, _⟩)
  case inr => exact absurd rfl (hno (1, a', C3) (by simp))
  have hi60 : i6 = 0 := by
    have := (List.getElem?_eq_some_iff.1 hi6).1
    simp at this; exact this
  subst hi60
  simp only [List.nil_append, List.getElem?_cons_zero, Option.some.injEq, Prod.mk.injEq] at hi6
  obtain ⟨_, rfl, rfl⟩ := hi6
  rw [show 0 + (a' + b' - a') = b' from by omega] at hb6
  have hu6 := HU5.out.step h6 hs6 (hb6.d.trans HD5.out.symm)
  have hun := Undone_tx hu6.tw.tx
  rw [hb6.undone] at hun
  have HUn := Lib.hid hun
  have HCc := Lib.hid (UndW_any c' hu6 hb6 hc7 (by omega) (by omega) (by omega))
  have a0 := hu6.cv
  have z0 := hu6.var.lt
  have a1 := hu6.tw.cs
  have z1 := hu6.tw.lt
  clear h6 hb6 hs6 hu6 hun HBk HU5 HD5
  go_wp2_with fail
  refine HUn.out.mono ?_
  rintro e w0 ⟨rfl, rfl⟩
  go_wp2_with fail
  refine HCc.out.mono ?_
  rintro e w7 ⟨rfl, RS7, RO7, U7, T7, C7, hu7, hb7⟩
  have HAb := Lib.hid (Abort_tb hu7.tw.tx hb7 (by omega) (by omega) (by omega))
  have a0 := hu7.cv
  have z0 := hu7.var.lt
  have a1 := hu7.tw.cs
  have z1 := hu7.tw.lt
  have HU7 := Lib.hid hu7
  have HD7 := Lib.hid hb7.d
  clear hu7 hb7 HCc HUn
  go_wp2_with fail
  refine HAb.out.mono ?_
  rintro e w8 ⟨rfl, RS8, U8, T8, h8, hb8, hs8⟩
  have hu8 := HU7.out.step h8 hs8 (hb8.d.trans HD7.out.symm)
  have hun := Undone_tx hu8.tw.tx
  rw [hb8.undone] at hun
  obtain ⟨un, hune⟩ : ∃ x : Nat, b' + (a' + c') = x := ⟨_, rfl⟩
  rw [hune] at hun
  have es : IntKind.i64.wrap ((b' : Int) + (c' : Int)) = (b' : Int) + (c' : Int) := by rw [IntKind.wrap_i64]; omega
  have es0 : IntKind.i64.wrap (b' : Int) = (b' : Int) := by rw [IntKind.wrap_i64]; omega
  have es2 : IntKind.i64.wrap ((b' : Int) + (c' : Int) + (a' : Int)) = (un : Int) := by rw [IntKind.wrap_i64]; omega
  have HUn := Lib.hid hun
  have a0 := hu8.cv
  have z0 := hu8.var.lt
  have a1 := hu8.tw.cs
  have z1 := hu8.tw.lt
  have HU8 := Lib.hid hu8
  have HPg := Lib.hid hb8.pages
  have HUd := Lib.hid (hb8.undone.trans hune)
  have HNv := Lib.hid hu8.nvar
  have HNg := Lib.hid hu8.tw.ng
  clear h8 hb8 hs8 hu8 hun HAb HU7 HD7 hune
  go_wp2_with fail
  have hS : Fr (All3 RS8 RO7 U8) w8 w8.drew := (Fr.refl _ w8).drew
  have hSn : Fr Nob w8 w8.drew := (Fr.refl _ w8).drew
  refine Rg.begin (Fr (All3 RS8 RO7 U8) w8) [] (by kernel_rfl) ?_
  refine Rg.op 0 (some 87) hS (v := (.pointer (some ⟨g, 0, none⟩))) (a' := ?a0a) (hy := fun wz hwz => ?h0a) (ha := ?b0a) (h := ?_)
  case h0a => (have cx := (hwz.cell (p := ⟨gw, 0, none⟩) z0 HNv.out).trans a0; have hpp := Nat.lt_of_lt_of_le z0 hwz.size; go_simp; try with_reducible rfl)
  case b0a => (simp only [Act.put, List.setIfInBounds_toArray, List.set_cons_zero, List.set_cons_succ]; rfl)
  refine Rg.op 1 (some 88) hS (v := ?v1a) (a' := ?a1a) (hy := fun wz hwz => ?h1a) (ha := ?b1a) (h := ?_)
  case h1a => (have hpp := Nat.lt_of_lt_of_le z1 hwz.size; go_simp; try with_reducible rfl)
  case b1a => (simp only [Act.put, List.setIfInBounds_toArray, List.set_cons_zero, List.set_cons_succ]; rfl)
  refine Rg.op 2 (some 89) hS (v := ?v2a) (a' := ?a2a) (hy := fun wz hwz => ?h2a) (ha := ?b2a) (h := ?_)
  case h2a => (have hpp := Nat.lt_of_lt_of_le z1 hwz.size; go_simp; try with_reducible rfl)
  case b2a => (simp only [Act.put, List.setIfInBounds_toArray, List.set_cons_zero, List.set_cons_succ]; rfl)
  refine Rg.op 3 (some 90) hS (v := (.pointer (some ⟨s, 0, none⟩))) (a' := ?a3a) (hy := fun wz hwz => ?h3a) (ha := ?b3a) (h := ?_)
  case h3a => (have cx := (hwz.cell (p := ⟨g, 1, none⟩) z1 HNg.out).trans a1; have hpp := Nat.lt_of_lt_of_le z1 hwz.size; go_simp; try with_reducible rfl)
  case b3a => (simp only [Act.put, List.setIfInBounds_toArray, List.set_cons_zero, List.set_cons_succ]; rfl)
  refine Rg.op 5 (some 92) hS (v := ?v5a) (a' := ?a5a) (hy := fun wz hwz => ?h5a) (ha := ?b5a) (h := ?_)
  case h5a => (go_simp; try with_reducible rfl)
  case b5a => (simp only [Act.put, List.setIfInBounds_toArray, List.set_cons_zero, List.set_cons_succ]; rfl)
  refine Rg.op 6 (some 93) hS (v := ?v6a) (a' := ?a6a) (hy := fun wz hwz => ?h6a) (ha := ?b6a) (h := ?_)
  case h6a => (go_simp; try with_reducible rfl)
  case b6a => (simp only [Act.put, List.setIfInBounds_toArray, List.set_cons_zero, List.set_cons_succ]; rfl)
  refine Rg.op 7 (some 94) hS (v := (.int .i64 b')) (a' := ?a7a) (hy := fun wz hwz => ?h7a) (ha := ?b7a) (h := ?_)
  case h7a => (have e1 := es0; go_simp; try with_reducible rfl)
  case b7a => (simp only [Act.put, List.setIfInBounds_toArray, List.set_cons_zero, List.set_cons_succ]; rfl)
  refine Rg.op 8 (some 95) hS (v := ?v8a) (a' := ?a8a) (hy := fun wz hwz => ?h8a) (ha := ?b8a) (h := ?_)
  case h8a => (go_simp; try with_reducible rfl)
  case b8a => (simp only [Act.put, List.setIfInBounds_toArray, List.set_cons_zero, List.set_cons_succ]; rfl)
  refine Rg.op 9 (some 96) hS (v := (.int .i64 ((b' : Int) + (c' : Int)))) (a' := ?a9a) (hy := fun wz hwz => ?h9a) (ha := ?b9a) (h := ?_)
  case h9a => (have e1 := es; go_simp; try with_reducible rfl)
  case b9a => (simp only [Act.put, List.setIfInBounds_toArray, List.set_cons_zero, List.set_cons_succ]; rfl)
  refine Rg.op 10 (some 97) hS (v := ?v10a) (a' := ?a10a) (hy := fun wz hwz => ?h10a) (ha := ?b10a) (h := ?_)
  case h10a => (go_simp; try with_reducible rfl)
  case b10a => (simp only [Act.put, List.setIfInBounds_toArray, List.set_cons_zero, List.set_cons_succ]; rfl)
  refine Rg.op 11 (some 98) hS (v := (.int .i64 un)) (a' := ?a11a) (hy := fun wz hwz => ?h11a) (ha := ?b11a) (h := ?_)
  case h11a => (have e1 := es2; go_simp; try with_reducible rfl)
  case b11a => (simp only [Act.put, List.setIfInBounds_toArray, List.set_cons_zero, List.set_cons_succ]; rfl)
  have hun9 := Undone_tx (HU8.out.tw.tx.new hSn)
  rw [HUd.out] at hun9
  have HUn9 := Lib.hid hun9
  clear hun9
  refine Rg.call 4 (some 91) (hrun := ?h4a) (hcall := HUn9.out) (h := ?_)
  case h4a => (go_simp)
  rintro e w9 ⟨rfl, rfl⟩
  refine ⟨_, ?a4a, rfl, ?b4a, (fun _ => hS), ?_⟩
  case b4a => (simp only [Act.put, List.setIfInBounds_toArray, List.set_cons_zero, List.set_cons_succ]; rfl)
  refine Rg.op 12 (some 99) hS (v := (.bool true)) (a' := ?a12a) (hy := fun wz hwz => ?h12a) (ha := ?b12a) (h := ?_)
  case h12a => (go_simp; try with_reducible rfl)
  case b12a => (simp only [Act.put, List.setIfInBounds_toArray, List.set_cons_zero, List.set_cons_succ]; rfl)
  refine Rg.op 13 (some 100) hS (v := ?v13a) (a' := ?a13a) (hy := fun wz hwz => ?h13a) (ha := ?b13a) (h := ?_)
  case h13a => (go_simp; try with_reducible rfl)
  case b13a => (simp only [Act.put, List.setIfInBounds_toArray, List.set_cons_zero, List.set_cons_succ]; rfl)
  refine Rg.op 14 (some 101) hS (v := (.pointer (some ⟨g, 0, none⟩))) (a' := ?a14a) (hy := fun wz hwz => ?h14a) (ha := ?b14a) (h := ?_)
  case h14a => (have cx := (hwz.cell (p := ⟨gw, 0, none⟩) z0 HNv.out).trans a0; have hpp := Nat.lt_of_lt_of_le z0 hwz.size; go_simp; try with_reducible rfl)
  case b14a => (simp only [Act.put, List.setIfInBounds_toArray, List.set_cons_zero, List.set_cons_succ]; rfl)
  refine Rg.op 15 (some 102) hS (v := ?v15a) (a' := ?a15a) (hy := fun wz hwz => ?h15a) (ha := ?b15a) (h := ?_)
  case h15a => (have hpp := Nat.lt_of_lt_of_le z1 hwz.size; go_simp; try with_reducible rfl)
  case b15a => (simp only [Act.put, List.setIfInBounds_toArray, List.set_cons_zero, List.set_cons_succ]; rfl)
  refine Rg.op 16 (some 103) hS (v := ?v16a) (a' := ?a16a) (hy := fun wz hwz => ?h16a) (ha := ?b16a) (h := ?_)
  case h16a => (have hpp := Nat.lt_of_lt_of_le z1 hwz.size; go_simp; try with_reducible rfl)
  case b16a => (simp only [Act.put, List.setIfInBounds_toArray, List.set_cons_zero, List.set_cons_succ]; rfl)
  refine Rg.op 17 (some 104) hS (v := (.pointer (some ⟨s, 0, none⟩))) (a' := ?a17a) (hy := fun wz hwz => ?h17a) (ha := ?b17a) (h := ?_)
  case h17a => (have cx := (hwz.cell (p := ⟨g, 1, none⟩) z1 HNg.out).trans a1; have hpp := Nat.lt_of_lt_of_le z1 hwz.size; go_simp; try with_reducible rfl)
  case b17a => (simp only [Act.put, List.setIfInBounds_toArray, List.set_cons_zero, List.set_cons_succ]; rfl)
  refine Rg.call 18 (some 105) (hrun := ?h18a) (hcall := HBl.out _) (h := ?_)
  case h18a => (go_simp)
  rintro e w10 ⟨bv, rfl, hbr, hf10⟩
  have hN10 : Fr Nob w8 w10 := hSn.trans hf10
  have hS10 : Fr (All3 RS8 RO7 U8) w8 w10 := hN10.mono (fun _ _ h => h.elim)
  obtain ⟨gb, cb, rfl, hgb1, hgb2⟩ := World.ownsRow.form (show w10.ownsRow _ 9 1 bv 6 _ from hbr) (by omega)
  have HBr := Lib.hid hbr
  clear hbr hf10
  refine ⟨_, ?a18a, rfl, ?b18a, (fun _ => hS10), ?_⟩
  case b18a => (simp only [Act.put, List.setIfInBounds_toArray, List.set_cons_zero, List.set_cons_succ]; rfl)
  have h10 := HU8.out.tw.tx.new hN10
  have hgbz : w8.heap.size ≤ gb := hgb1
  have hst := Stands_tx h10 gb cb (fun i hi => by rw [congrFun HPg.out i]; exact Row6.at_ HBr.out i hi) (fun e => by have := HU8.out.tw.tx.lts gb e; omega) (fun e => by have := HU8.out.tw.tx.ltu gb e; omega) (by omega)
  have HSt := Lib.hid hst
  clear hst h10
  refine Rg.call 19 (some 106) (hrun := ?h19a) (hcall := HSt.out) (h := ?_)
  case h19a => (go_simp)
  rintro e w11 ⟨rfl, U11, h11, hs11⟩
  have hS11 : Fr (All3 RS8 RO7 U8) w8 w11 := hS10.trans hs11.fr3
  clear h11 hs11 HSt
  refine ⟨_, ?a19a, rfl, ?b19a, (fun _ => hS11), ?_⟩
  case b19a => (simp only [Act.put, List.setIfInBounds_toArray, List.set_cons_zero, List.set_cons_succ]; rfl)
  refine Rg.op 20 (some 107) hS11 (v := ?v20a) (a' := ?a20a) (hy := fun wz hwz => ?h20a) (ha := ?b20a) (h := ?_)
  case h20a => (go_simp; try with_reducible rfl)
  case b20a => (simp only [Act.put, List.setIfInBounds_toArray, List.set_cons_zero, List.set_cons_succ]; rfl)
  refine Rg.op 21 (some 108) hS11 (v := ?v21a) (a' := ?a21a) (hy := fun wz hwz => ?h21a) (ha := ?b21a) (h := ?_)
  case h21a => (go_simp; try with_reducible rfl)
  case b21a => (simp only [Act.put, List.setIfInBounds_toArray, List.set_cons_zero, List.set_cons_succ]; rfl)
  refine Rg.call 22 (some 109) (hrun := ?h22a) (hcall := HAw.out _) (h := ?_)
  case h22a => (go_simp)
  rintro e w12 ⟨rfl, hf12⟩
  have hS12 : Fr (All3 RS8 RO7 U8) w8 w12 := hS11.trans (hf12.mono (fun _ _ h => h.elim))
  clear hf12
  refine ⟨_, ?a22a, rfl, ?b22a, (fun _ => hS12), ?_⟩
  case b22a => (simp only [Act.put, List.setIfInBounds_toArray, List.set_cons_zero, List.set_cons_succ]; rfl)
  refine Rg.op 23 (some 110) hS12 (v := ?v23a) (a' := ?a23a) (hy := fun wz hwz => ?h23a) (ha := ?b23a) (h := ?_)
  case h23a => (go_simp; try with_reducible rfl)
  case b23a => (simp only [Act.put, List.setIfInBounds_toArray, List.set_cons_zero, List.set_cons_succ]; rfl)
  refine Rg.op 24 (some 6) hS12 (v := ?v24a) (a' := ?a24a) (hy := fun wz hwz => ?h24a) (ha := ?b24a) (h := ?_)
  case h24a => (go_simp; try with_reducible rfl)
  case b24a => (simp only [Act.put, List.setIfInBounds_toArray, List.set_cons_zero, List.set_cons_succ]; rfl)
  refine Rg.done _ (h := ?_)
  go_wp2
  go_ret
  refine ⟨rfl, HU8.out.tw.fr.step hS12 (fun i hi e => ?_)⟩
  have := HU8.out.tw.hi i e
  omega
end Go.Proofs.YtfapklpcgcgahaaGreatDoor
