/-
  TxnW2, TxnUndone, TxnW3, in one text.
-/
import Derived.Test.YtfapklpcgcgahaaGreatDoorMg34
import Derived.Lib.SlBytesConst
import Derived.Laws.Strings3
/-
  made, awake: a world of the statements on transactions.
-/
namespace Go.Proofs.YtfapklpcgcgahaaGreatDoor
set_option linter.unusedSimpArgs false
set_option linter.unusedVariables false
open Go.RowKit Go.Maps

theorem Row6.at_ {w : World} {base g c : Nat} {C : Pgs} (h : Row6 w base (.slice (some ⟨g, 0, none⟩) 6 c) C) (i : Nat) (hi : i < 6) : w.cell? ⟨g, i, none⟩ = some (tS (C i)) := by
  have h7 := (show w.ownsRow _ 9 1 _ 6 _ from h).cellAt i (by omega)
  rw [h7, List.getElem?_map, List.getElem?_range hi]; rfl
def w6cells (d s : Nat) (log frames : Int) (nv lv : Value) : Array Value := #[.pointer (some ⟨d, 0, none⟩), .pointer (some ⟨s, 0, none⟩), .int .i64 log, .int .i64 frames, nv, lv, .slice none 0 0, .slice none 0 0, .bool false]
/-- A world that was made since w0, its store, and the row of its pages as texts. -/
structure TW (w0 w : World) (RS RO U : Nat → Prop) (g s M K : Nat) (T : TS) (log frames : Int) (nv lv : Value) (N : Pgs) : Prop where
  wld : Blk w g 38 (w6cells T.d s log frames nv lv)
  tx : TxIn RS RO U w s 6 M K T
  now : Row6 w w0.heap.size nv N
  nvb : ∀ b, nv.ownBlock = some b → ¬ All3 RS RO U b
  hi : ∀ b, All3 RS RO U b → w0.heap.size ≤ b
  ng : ¬ All3 RS RO U g
  gg : w0.heap.size ≤ g
  fr : Fr Nob w0 w
section
variable {w0 w w' : World} {RS RO U RS' RO' U' : Nat → Prop} {g s M K : Nat} {T T' : TS} {log frames : Int} {nv lv : Value} {N : Pgs}
theorem TW.new (h : TW w0 w RS RO U g s M K T log frames nv lv N) (hf : Fr Nob w w') : TW w0 w' RS RO U g s M K T log frames nv lv N :=
  ⟨h.wld.fr hf (fun h => h), h.tx.new hf, own_fr h.now hf (fun _ _ h => h), h.nvb, h.hi, h.ng, h.gg, h.fr.trans hf⟩
theorem TW.lt (h : TW w0 w RS RO U g s M K T log frames nv lv N) : g < w.heap.size := h.wld.lt
theorem TW.cs (h : TW w0 w RS RO U g s M K T log frames nv lv N) : w.cell? ⟨g, 1, none⟩ = some (.pointer (some ⟨s, 0, none⟩)) := by
  have := h.wld.cell 1
  simpa [w6cells] using this
theorem TW.cn (h : TW w0 w RS RO U g s M K T log frames nv lv N) : w.cell? ⟨g, 4, none⟩ = some nv := by
  have := h.wld.cell 4
  simpa [w6cells] using this
theorem Subs.fr3 (h : Subs RS RS' RO RO' U U' w w') : Fr (All3 RS RO U) w w' := h.fr.mono (fun _ _ e => e.elim .inl (fun e => .inr (.inr e)))
/-- A call on the store. -/
theorem TW.step (h : TW w0 w RS RO U g s M K T log frames nv lv N) {M' K' : Nat} (ht : TxIn RS' RO' U' w' s 6 M' K' T') (hs : Subs RS RS' RO RO' U U' w w') (hd : T'.d = T.d) : TW w0 w' RS' RO' U' g s M' K' T' log frames nv lv N := by
  have hz := h.fr.size
  have hall : ∀ b, All3 RS' RO' U' b → All3 RS RO U b ∨ w.heap.size ≤ b := fun b hb => by
    rcases hb with hb | hb | hb
    · exact (hs.rs b hb).imp .inl id
    · exact (hs.ro b hb).imp (fun e => .inr (.inl e)) id
    · exact (hs.u b hb).imp (fun e => .inr (.inr e)) id
  refine ⟨by rw [hd]; exact h.wld.fr hs.fr3 h.ng, ht, own_fr h.now hs.fr3 h.nvb, fun b hb e => ?_, fun b hb => ?_, fun e => ?_, h.gg, h.fr.step hs.fr3 (fun i hi e => ?_)⟩
  · rcases hall b e with e | e
    · exact h.nvb b hb e
    · have := own_lt h.now hb; omega
  · rcases hall b hb with e | e
    · exact h.hi b e
    · omega
  · rcases hall g e with e | e
    · exact h.ng e
    · have := h.lt; omega
  · have := h.hi i e; omega
end
set_option maxHeartbeats 3200000 in
set_option maxRecDepth 100000 in
theorem Made6_two (log : Nat) (frames : Int) (w : World) (h3 : 64 ≤ log) (h4 : log ≤ 16384) (h5 : 1 ≤ frames) (h6 : frames ≤ 64) :
    Calls Tryz.prog 14 #[.int .i64 log, .int .i64 frames] w fun e w' => ∃ g s d p l f RS U nv lv, e = .returned (.pointer (some ⟨g, 0, none⟩)) ∧ TW w w' RS (fun _ => False) U g s 0 0 (TS.fresh d p l f 6 log frames) log frames nv lv CZ ∧ Row6 w' w.heap.size lv CZ ∧ (∀ b, lv.ownBlock = some b → ¬ All3 RS (fun _ => False) U b ∧ nv.ownBlock ≠ some b) := by
  have HNe := Lib.hid (NeedT_any 6 log w (by omega) (by omega) (by omega))
  have HNw := Lib.hid (New_good (8 * 6 + 80 + log) w (by omega) (by omega))
  have HBl : Hid (∀ W, Calls Tryz.prog 26 #[] W fun e w' => ∃ v, e = .returned v ∧ Row6 w' W.heap.size v CZ ∧ Fr Nob W w') := Blank6_any
  obtain ⟨nd, hnd⟩ : ∃ x : Nat, 8 * 6 + 80 + log = x := ⟨_, rfl⟩
  rw [hnd] at HNe HNw
  have HNd := Lib.hid hnd
  clear hnd
  go_enter Tryz.func14, Tryz.ntmps14
  go_wp2_with fail
  refine HNe.out.mono ?_
  rintro e w0 ⟨rfl, rfl⟩
  go_wp2_with fail
  refine HNw.out.mono ?_
  rintro e w1 ⟨d, rfl, hd0, hd1, hf1⟩
  have hnd := HNd.out
  have HOp := Lib.hid (OpenT_good (pages := 6) (log := log) (frames := frames) hd1 (by omega) (by omega) h3 h4 h5 h6 (by omega) (by omega))
  have HF1 := Lib.hid hf1
  clear hd1 hf1 HNw hnd
  go_wp2_with fail
  refine HOp.out.mono ?_
  rintro e w2 ⟨s, rfl, p, l, f, RS, U, h2, hRS, hU, hs0, hf2⟩
  have H2 := Lib.hid h2
  have HRS := Lib.hid hRS
  have HU := Lib.hid hU
  have HF2 := Lib.hid hf2
  have hz1 := HF1.out.size
  have hz2 := hf2.size
  clear h2 hRS hU hf2 HOp
  go_wp2_with fail
  refine (HBl.out w2).mono ?_
  rintro e w3 ⟨nv, rfl, hn3, hf3⟩
  obtain ⟨gn, cn, rfl, _⟩ := World.ownsRow.form (show w3.ownsRow w2.heap.size 9 1 nv 6 _ from hn3) (by omega)
  have HN3 := Lib.hid hn3
  have HF3 := Lib.hid hf3
  clear hn3 hf3
  go_wp2_with fail
  refine (HBl.out w3).mono ?_
  rintro e w4 ⟨lv, rfl, hl4, hf4⟩
  obtain ⟨gl, cl, rfl, _⟩ := World.ownsRow.form (show w4.ownsRow w3.heap.size 9 1 lv 6 _ from hl4) (by omega)
  have HL4 := Lib.hid hl4
  clear hl4
  have HF4 := Lib.hid hf4
  clear hf4
  go_wp2
  have hfa : Fr Nob w4 (w4.alloc (.cells (w6cells d s log frames (.slice (some ⟨gn, 0, none⟩) 6 cn) (.slice (some ⟨gl, 0, none⟩) 6 cl)) 38)) := (Fr.refl _ w4).alloc _
  have hba : Blk (w4.alloc (.cells (w6cells d s log frames (.slice (some ⟨gn, 0, none⟩) 6 cn) (.slice (some ⟨gl, 0, none⟩) 6 cl)) 38)) w4.heap.size 38 (w6cells d s log frames (.slice (some ⟨gn, 0, none⟩) 6 cn) (.slice (some ⟨gl, 0, none⟩) 6 cl)) := Blk.new _ _ _
  have hz3 := HF3.out.size
  have hz4 := HF4.out.size
  have hfr : Fr Nob w (w4.alloc (.cells (w6cells d s log frames (.slice (some ⟨gn, 0, none⟩) 6 cn) (.slice (some ⟨gl, 0, none⟩) 6 cl)) 38)) := (((HF1.out.step HF2.out (fun i hi e => by
    have e : w.heap.size ≤ i := e.1
    omega)).trans HF3.out).trans HF4.out).trans hfa
  have hall : ∀ b, All3 RS (fun _ => False) U b → w.heap.size ≤ b ∧ b < w2.heap.size := fun b hb => by
    rcases hb with hb | hb | hb
    · have := HRS.out b hb; have := H2.out.lts b hb; omega
    · exact hb.elim
    · have h7 := H2.out.ltu b hb
      rcases HU.out b hb with e | e
      · exact ⟨e.1, h7⟩
      · omega
  have hn4 : Row6 (w4.alloc (.cells (w6cells d s log frames (.slice (some ⟨gn, 0, none⟩) 6 cn) (.slice (some ⟨gl, 0, none⟩) 6 cl)) 38)) w2.heap.size (.slice (some ⟨gn, 0, none⟩) 6 cn) CZ := own_fr HN3.out (HF4.out.trans hfa) (fun _ _ h => h)
  go_ret
  have hl5 : Row6 (w4.alloc (.cells (w6cells d s log frames (.slice (some ⟨gn, 0, none⟩) 6 cn) (.slice (some ⟨gl, 0, none⟩) 6 cl)) 38)) w3.heap.size (.slice (some ⟨gl, 0, none⟩) 6 cl) CZ := own_fr HL4.out hfa (fun _ _ h => h)
  exact ⟨w4.heap.size, s, d, p, l, f, RS, U, _, _, rfl, ⟨hba, H2.out.new ((HF3.out.trans HF4.out).trans hfa), own_base hn4 (fun b hb => by have := (hn4.lt b hb).1; omega), fun b hb e => by have := (HN3.out.lt b hb).1; have := hall b e; omega, fun b hb => (hall b hb).1, fun e => by have := hall _ e; omega, by omega, hfr⟩, own_base hl5 (fun b hb => by have := (hl5.lt b hb).1; omega), fun b hb => ⟨fun e => by have := (HL4.out.lt b hb).1; have := hall b e; omega, fun e => by have := (HL4.out.lt b hb).1; have := own_lt HN3.out e; omega⟩⟩
theorem Made6_any (log : Nat) (frames : Int) (w : World) (h3 : 64 ≤ log) (h4 : log ≤ 16384) (h5 : 1 ≤ frames) (h6 : frames ≤ 64) :
    Calls Tryz.prog 14 #[.int .i64 log, .int .i64 frames] w fun e w' => ∃ g s d p l f RS U nv lv, e = .returned (.pointer (some ⟨g, 0, none⟩)) ∧ TW w w' RS (fun _ => False) U g s 0 0 (TS.fresh d p l f 6 log frames) log frames nv lv CZ := by
  refine (Made6_two log frames w h3 h4 h5 h6).mono ?_
  rintro e w' ⟨g, s, d, p, l, f, RS, U, nv, lv, h1, h2, _⟩
  exact ⟨g, s, d, p, l, f, RS, U, nv, lv, h1, h2⟩
set_option maxHeartbeats 6400000 in
set_option maxRecDepth 100000 in
theorem Awake6_any (w : World) : Calls Tryz.prog 13 #[] w fun e w' => e = .returned (.bool true) ∧ Fr Nob w w' := by
  have kc := fun (w : World) (C : Array Value) (n c : Nat) => Lib.run_convert_bytes_const (P := Tryz.prog) w 40 5 C n c Tryz.underlying40 Tryz.underlying5
  have HMd : Hid (Calls Tryz.prog 14 #[.int .i64 64, .int .i64 2] w fun e w' => ∃ g s d p l f RS U nv lv, e = .returned (.pointer (some ⟨g, 0, none⟩)) ∧ TW w w' RS (fun _ => False) U g s 0 0 (TS.fresh d p l f 6 64 2) (64 : Nat) 2 nv lv CZ) := Made6_any 64 2 w (by omega) (by omega) (by omega) (by omega)
  have HBl : Hid (∀ W, Calls Tryz.prog 26 #[] W fun e w' => ∃ v, e = .returned v ∧ Row6 w' W.heap.size v CZ ∧ Fr Nob W w') := Blank6_any
  go_enter Tryz.func13, Tryz.ntmps13
  go_wp2_with fail
  refine HMd.out.mono ?_
  rintro e w1 ⟨g, s, d, p, l, f, RS1, U1, nv, lv, rfl, hw1⟩
  have hti := TI.fresh d p l f 64 2
  have HBg := Lib.hid (Begin_tb hw1.tx hti (by omega) (by omega))
  have c1 := hw1.cs
  have z1 := hw1.lt
  have HW1 := Lib.hid hw1
  clear hw1 hti HMd
  go_wp2_with fail
  refine HBg.out.mono ?_
  rintro e w2 ⟨rfl, RS2, T2, h2, hb2, hs2⟩
  have hw2 := HW1.out.step h2 hs2 hb2.d
  have hfa : Fr Nob w2 (w2.alloc (.cells #[.int .u8 120] 5 (1, 2))) := (Fr.refl _ w2).alloc _
  have hbi : BytesIn (w2.alloc (.cells #[.int .u8 120] 5 (1, 2))) (some ⟨w2.heap.size, 0, none⟩) [120] := bytesIn_lit w2 [120] (1, 2)
  have hwa := hw2.new hfa
  have hnot : ¬ RS2 w2.heap.size ∧ ¬ (fun _ : Nat => False) w2.heap.size ∧ ¬ U1 w2.heap.size := ⟨fun e => by have := h2.lts _ e; omega, fun h => h, fun e => by have := h2.ltu _ e; omega⟩
  have hwr := Write_tb hwa.tx hb2 0 0 w2.heap.size 0 1 [120] hbi (by simp) hnot (by omega) (by decide) (by omega) (by decide) (by omega) (by decide) (by omega) (by omega)
  have HWr := Lib.hid hwr
  have HWa := Lib.hid hwa
  have HD2 := Lib.hid hb2.d
  have c2 := hw2.cs
  have z2 := hw2.lt
  clear hfa hbi hwa hnot hwr hw2 h2 hb2 hs2 HBg c1 z1 HW1
  go_wp2_with fail
  refine HWr.out.mono ?_
  rintro e w3 ⟨rfl, RS3, RO3, U3, T3, h3, hb3, hs3⟩
  have hw3 := HWa.out.step h3 hs3 (hb3.d.trans HD2.out.symm)
  have HAb := Lib.hid (Abort_tb hw3.tx hb3 (by simp) (by omega) (by omega))
  have c3 := hw3.cs
  have z3 := hw3.lt
  have HW3 := Lib.hid hw3
  have HD3 := Lib.hid hb3.d
  clear h3 hb3 hs3 hw3 HWr HWa HD2 c2 z2
  go_wp2_with fail
  refine HAb.out.mono ?_
  rintro e w4 ⟨rfl, RS4, U4, T4, h4, hb4, hs4⟩
  have hw4 := HW3.out.step h4 hs4 (hb4.d.trans HD3.out.symm)
  have hfa : Fr Nob w4 (w4.alloc (.cells #[.int .u8 120] 5 (1, 2))) := (Fr.refl _ w4).alloc _
  have hwa := hw4.new hfa
  have HWi := Lib.hid (Write_idle hwa.tx hb4.busy 0 0 (some ⟨w4.heap.size, 0, none⟩) 1 1)
  have c4 := hw4.cs
  have z4 := hw4.lt
  have c5 := hwa.cs
  have z5 := hwa.lt
  have HW5 := Lib.hid hwa
  have HPg4 := Lib.hid hb4.pages
  have HBz4 := Lib.hid hb4.busy
  clear h4 hb4 hs4 hw4 hfa hwa HAb HW3 HD3 c3 z3
  go_wp2_with fail
  refine HWi.out.mono ?_
  rintro e w5 ⟨rfl, rfl⟩
  obtain ⟨w5, hw5⟩ : ∃ W, w4.alloc (.cells #[.int .u8 120] 5 (1, 2)) = W := ⟨_, rfl⟩
  rw [hw5] at HW5 c5 z5 ⊢
  clear hw5 HWi c4 z4
  go_wp2_with fail
  have hS : Fr (All3 RS4 RO3 U4) w5 w5.drew := (Fr.refl _ w5).drew
  have hSn : Fr Nob w5 w5.drew := (Fr.refl _ w5).drew
  have hng := HW5.out.ng
  refine Rg.begin (Fr (All3 RS4 RO3 U4) w5) [] (by kernel_rfl) ?_
  refine Rg.op 0 (some 33) hS (v := ?v0a) (hy := fun wz hwz => ?h0a) (h := ?_)
  case h0a => (go_simp; try with_reducible rfl)
  refine Rg.op 1 (some 34) hS (v := ?v1a) (hy := fun wz hwz => ?h1a) (h := ?_)
  case h1a => (go_simp; try with_reducible rfl)
  refine Rg.op 2 (some 35) hS (v := ?v2a) (hy := fun wz hwz => ?h2a) (h := ?_)
  case h2a => (go_simp; try with_reducible rfl)
  refine Rg.op 3 (some 36) hS (v := ?v3a) (hy := fun wz hwz => ?h3a) (h := ?_)
  case h3a => (go_simp; try with_reducible rfl)
  refine Rg.op 4 (some 37) hS (v := ?v4a) (hy := fun wz hwz => ?h4a) (h := ?_)
  case h4a => (go_simp; try with_reducible rfl)
  refine Rg.op 5 (some 38) hS (v := ?v5a) (hy := fun wz hwz => ?h5a) (h := ?_)
  case h5a => (go_simp; try with_reducible rfl)
  refine Rg.op 6 (some 39) hS (v := ?v6a) (hy := fun wz hwz => ?h6a) (h := ?_)
  case h6a => (go_simp; try with_reducible rfl)
  refine Rg.op 7 (some 40) hS (v := ?v7a) (hy := fun wz hwz => ?h7a) (h := ?_)
  case h7a => (go_simp; try with_reducible rfl)
  refine Rg.op 8 (some 41) hS (v := ?v8a) (hy := fun wz hwz => ?h8a) (h := ?_)
  case h8a => (go_simp; try with_reducible rfl)
  refine Rg.op 9 (some 42) hS (v := ?v9a) (hy := fun wz hwz => ?h9a) (h := ?_)
  case h9a => (go_simp; try with_reducible rfl)
  refine Rg.op 10 (some 43) hS (v := ?v10a) (hy := fun wz hwz => ?h10a) (h := ?_)
  case h10a => (go_simp; try with_reducible rfl)
  refine Rg.op 11 (some 44) hS (v := ?v11a) (hy := fun wz hwz => ?h11a) (h := ?_)
  case h11a => (go_simp; try with_reducible rfl)
  refine Rg.op 12 (some 45) hS (v := ?v12a) (hy := fun wz hwz => ?h12a) (h := ?_)
  case h12a => (go_simp; try with_reducible rfl)
  refine Rg.op 13 (some 46) hS (v := ?v13a) (hy := fun wz hwz => ?h13a) (h := ?_)
  case h13a => (go_simp; try with_reducible rfl)
  refine Rg.op 14 (some 47) hS (v := ?v14a) (hy := fun wz hwz => ?h14a) (h := ?_)
  case h14a => (go_simp; try with_reducible rfl)
  refine Rg.op 15 (some 48) hS (v := ?v15a) (hy := fun wz hwz => ?h15a) (h := ?_)
  case h15a => (go_simp; try with_reducible rfl)
  refine Rg.op 16 (some 49) hS (v := ?v16a) (hy := fun wz hwz => ?h16a) (h := ?_)
  case h16a => (have hpp := Nat.lt_of_lt_of_le z5 hwz.size; go_simp; try with_reducible rfl)
  refine Rg.op 17 (some 50) hS (v := ?v17a) (hy := fun wz hwz => ?h17a) (h := ?_)
  case h17a => (have hpp := Nat.lt_of_lt_of_le z5 hwz.size; go_simp; try with_reducible rfl)
  refine Rg.op 18 (some 51) hS (v := (.pointer (some ⟨s, 0, none⟩))) (hy := fun wz hwz => ?h18a) (h := ?_)
  case h18a => (have cx := (hwz.cell (p := ⟨g, 1, none⟩) z5 hng).trans c5; have hpp := Nat.lt_of_lt_of_le z5 hwz.size; go_simp; try with_reducible rfl)
  refine Rg.call 19 (some 52) (hrun := ?h19a) (hcall := HBl.out _) (h := ?_)
  case h19a => (go_simp)
  rintro e w6 ⟨bv, rfl, hbr, hf6⟩
  have hN6 : Fr Nob w5 w6 := hSn.trans hf6
  have hS6 : Fr (All3 RS4 RO3 U4) w5 w6 := hN6.mono (fun _ _ h => h.elim)
  obtain ⟨gb, cb, rfl, hgb1, hgb2⟩ := World.ownsRow.form (show w6.ownsRow _ 9 1 bv 6 _ from hbr) (by omega)
  have HBr := Lib.hid hbr
  clear hbr hf6
  refine ⟨_, ?a19a, rfl, ?b19a, (fun _ => hS6), ?_⟩
  case b19a => (simp only [Act.put, List.setIfInBounds_toArray, List.set_cons_zero, List.set_cons_succ]; rfl)
  have h6 := HW5.out.tx.new hN6
  have hgbz : w5.heap.size ≤ gb := hgb1
  have hst := Stands_tx h6 gb cb (fun i hi => by rw [congrFun HPg4.out i]; exact Row6.at_ HBr.out i hi) (fun e => by have := HW5.out.tx.lts gb e; omega) (fun e => by have := HW5.out.tx.ltu gb e; omega) (by omega)
  have HSt := Lib.hid hst
  clear hst h6
  refine Rg.call 20 (some 53) (hrun := ?h20a) (hcall := HSt.out) (h := ?_)
  case h20a => (go_simp)
  rintro e w7 ⟨rfl, U7, h7, hs7⟩
  have hS7 : Fr (All3 RS4 RO3 U4) w5 w7 := hS6.trans hs7.fr3
  have H7 := Lib.hid h7
  clear h7 hs7 HSt
  refine ⟨_, ?a20a, rfl, ?b20a, (fun _ => hS7), ?_⟩
  case b20a => (simp only [Act.put, List.setIfInBounds_toArray, List.set_cons_zero, List.set_cons_succ]; rfl)
  refine Rg.op 21 (some 54) hS7 (v := ?v21a) (hy := fun wz hwz => ?h21a) (h := ?_)
  case h21a => (go_simp; try with_reducible rfl)
  refine Rg.op 22 (some 55) hS7 (v := ?v22a) (hy := fun wz hwz => ?h22a) (h := ?_)
  case h22a => (go_simp; try with_reducible rfl)
  refine Rg.op 23 (some 56) hS7 (v := ?v23a) (hy := fun wz hwz => ?h23a) (h := ?_)
  case h23a => (go_simp; try with_reducible rfl)
  refine Rg.op 24 (some 57) hS7 (v := ?v24a) (hy := fun wz hwz => ?h24a) (h := ?_)
  case h24a => (have hpp := Nat.lt_of_lt_of_le z5 hwz.size; go_simp; try with_reducible rfl)
  refine Rg.op 25 (some 58) hS7 (v := ?v25a) (hy := fun wz hwz => ?h25a) (h := ?_)
  case h25a => (have hpp := Nat.lt_of_lt_of_le z5 hwz.size; go_simp; try with_reducible rfl)
  refine Rg.op 26 (some 59) hS7 (v := (.pointer (some ⟨s, 0, none⟩))) (hy := fun wz hwz => ?h26a) (h := ?_)
  case h26a => (have cx := (hwz.cell (p := ⟨g, 1, none⟩) z5 hng).trans c5; have hpp := Nat.lt_of_lt_of_le z5 hwz.size; go_simp; try with_reducible rfl)
  have HBu := Lib.hid (Busy_tx H7.out)
  refine Rg.call 27 (some 60) (hrun := ?h27a) (hcall := HBu.out) (h := ?_)
  case h27a => (go_simp)
  rintro e w8 ⟨rfl, rfl⟩
  refine ⟨_, ?a27a, rfl, ?b27a, (fun _ => hS7), ?_⟩
  case b27a => (simp only [Act.put, List.setIfInBounds_toArray, List.set_cons_zero, List.set_cons_succ]; rfl)
  refine Rg.op 28 (some 61) hS7 (v := ?v28a) (hy := fun wz hwz => ?h28a) (h := ?_)
  case h28a => (go_simp; try with_reducible rfl)
  refine Rg.op 29 (some 62) hS7 (v := ?v29a) (hy := fun wz hwz => ?h29a) (h := ?_)
  case h29a => (go_simp; try with_reducible rfl)
  refine Rg.op 30 (some 0) hS7 (v := ?v30a) (hy := fun wz hwz => ?h30a) (h := ?_)
  case h30a => (go_simp; try with_reducible rfl)
  refine Rg.done _ (h := ?_)
  go_wp2
  go_ret
  refine ⟨by show Ending.returned (Value.bool (!T4.busy)) = _; rw [HBz4.out]; rfl, HW5.out.fr.step hS7 (fun i hi e => ?_)⟩
  have := HW5.out.hi i e
  omega
end Go.Proofs.YtfapklpcgcgahaaGreatDoor

/-
  TxnUndone returns true.
-/
namespace Go.Proofs.YtfapklpcgcgahaaGreatDoor
set_option linter.unusedSimpArgs false
set_option linter.unusedVariables false
open Go.RowKit Go.Maps

/-- A world whose variable lies in a block of its own. -/
structure UW (w0 w : World) (RS RO U : Nat → Prop) (gw g s M K : Nat) (T : TS) (log frames : Int) (nv lv : Value) (N : Pgs) : Prop where
  tw : TW w0 w RS RO U g s M K T log frames nv lv N
  var : Blk w gw 32 #[.pointer (some ⟨g, 0, none⟩)]
  nvar : ¬ All3 RS RO U gw
  lvar : w0.heap.size ≤ gw
section
variable {w0 w w' : World} {RS RO U RS' RO' U' : Nat → Prop} {gw g s M K : Nat} {T T' : TS} {log frames : Int} {nv lv : Value} {N : Pgs}
theorem Subs.keep (hs : Subs RS RS' RO RO' U U' w w') {b : Nat} (hb : ¬ All3 RS RO U b) (hlt : b < w.heap.size) : ¬ All3 RS' RO' U' b := fun e => by
  rcases e with e | e | e
  · rcases hs.rs b e with e | e
    · exact hb (.inl e)
    · omega
  · rcases hs.ro b e with e | e
    · exact hb (.inr (.inl e))
    · omega
  · rcases hs.u b e with e | e
    · exact hb (.inr (.inr e))
    · omega
theorem UW.new (h : UW w0 w RS RO U gw g s M K T log frames nv lv N) (hf : Fr Nob w w') : UW w0 w' RS RO U gw g s M K T log frames nv lv N :=
  ⟨h.tw.new hf, h.var.fr hf (fun h => h), h.nvar, h.lvar⟩
theorem UW.step (h : UW w0 w RS RO U gw g s M K T log frames nv lv N) {M' K' : Nat} (ht : TxIn RS' RO' U' w' s 6 M' K' T') (hs : Subs RS RS' RO RO' U U' w w') (hd : T'.d = T.d) : UW w0 w' RS' RO' U' gw g s M' K' T' log frames nv lv N :=
  ⟨h.tw.step ht hs hd, h.var.fr hs.fr3 h.nvar, hs.keep h.nvar h.var.lt, h.lvar⟩
theorem UW.cv (h : UW w0 w RS RO U gw g s M K T log frames nv lv N) : w.cell? ⟨gw, 0, none⟩ = some (.pointer (some ⟨g, 0, none⟩)) := by
  have := h.var.cell 0
  simpa using this
end
theorem TxIn.all3lt {RS RO U : Nat → Prop} {w : World} {s pages M K : Nat} {T : TS} (h : TxIn RS RO U w s pages M K T) {b : Nat} (hb : All3 RS RO U b) : b < w.heap.size := by
  rcases hb with hb | hb | hb
  · exact h.lts b hb
  · exact h.lto b hb
  · exact h.ltu b hb
end Go.Proofs.YtfapklpcgcgahaaGreatDoor

/-
  The texts that a statement notes: a page's text cut and put together, a row of texts copied.
-/
namespace Go.Proofs.YtfapklpcgcgahaaGreatDoor
set_option linter.unusedSimpArgs false
set_option linter.unusedVariables false
open Go.RowKit Go.Maps

def tB (l : List UInt8) : ByteArray := ⟨l.toArray⟩
theorem tS_eq (l : List UInt8) : tS l = .string (tB l) := rfl
theorem tB_size (l : List UInt8) : (tB l).size = l.length := by show l.toArray.size = _; simp
theorem tB_take (l : List UInt8) (k : Nat) (hk : k ≤ l.length) : (tB l).extract 0 k = tB (l.take k) := by
  apply ByteArray.ext
  apply Array.toList_inj.1
  rw [Lib.extract_data]
  simp [tB]
theorem tB_drop (l : List UInt8) (k : Nat) : (tB l).extract k l.length = tB (l.drop k) := by
  apply ByteArray.ext
  apply Array.toList_inj.1
  rw [Lib.extract_data]
  simp only [tB]
  rw [List.take_of_length_le (by rw [List.length_drop]; omega)]
theorem tB_append (a b : List UInt8) : tB a ++ tB b = tB (a ++ b) := by
  unfold tB
  apply ByteArray.ext
  simp
theorem tB_lay (c : List UInt8) (at_ : Nat) (b : List UInt8) : tB (c.take at_) ++ tB b ++ tB (c.drop (at_ + b.length)) = tB (layB c at_ b) := by
  rw [tB_append, tB_append]; rfl
def setP (N : Pgs) (i : Nat) (l : List UInt8) : Pgs := fun k => if k = i then l else N k
theorem setP_lay (C : Pgs) (i at_ : Nat) (b : List UInt8) : setP C i (layB (C i) at_ b) = layP C i at_ b := rfl
theorem row6_set (N : Pgs) (i : Nat) (l : List UInt8) : ((List.range 6).map fun k => tS (setP N i l k)) = ((List.range 6).map fun k => tS (N k)).set i (tS l) := by
  refine List.ext_getElem? (fun j => ?_)
  rw [List.getElem?_set, List.getElem?_map, List.getElem?_map, List.length_map, List.length_range]
  by_cases hj : j < 6
  · rw [List.getElem?_range hj]
    by_cases e : i = j
    · subst e
      rw [if_pos rfl, if_pos hj]
      simp [setP]
    · rw [if_neg e]
      have : ¬ j = i := fun h => e h.symm
      simp [setP, this]
  · rw [List.getElem?_eq_none (by rw [List.length_range]; omega)]
    split
    · rename_i e
      rw [if_neg (by omega)]; rfl
    · rfl
section
variable {w0 w w' : World} {RS RO U : Nat → Prop} {g s M K : Nat} {T : TS} {log frames : Int} {nv lv : Value} {N : Pgs}
theorem Row6.set_ {base gn cn : Nat} (h : Row6 w base (.slice (some ⟨gn, 0, none⟩) 6 cn) N) (i : Nat) (l : List UInt8) (hi : i < 6) : Row6 (w.setCell ⟨gn, i, none⟩ (tS l)) base (.slice (some ⟨gn, 0, none⟩) 6 cn) (setP N i l) := by
  unfold Row6 at h ⊢
  obtain ⟨hl, h⟩ := h
  refine ⟨by simp, ?_⟩
  rcases h with ⟨e, _⟩ | ⟨g, cap, cur, e, h1, h2, h3, h4, h5, h6⟩
  · cases e
  · injection e with e1 e2 e3
    injection e1 with e1
    injection e1 with e1
    subst e1 e3
    have hb : Blk w gn 9 cur := h2
    have hs := hb.set_ i (tS l)
    refine .inr ⟨gn, cn, cur.setIfInBounds i (tS l), rfl, h1, hs, h3, h4, by simpa using h5, ?_⟩
    rw [row6_set, ← h6, Array.toList_setIfInBounds, List.take_set]
theorem TW.setNow {gn cn : Nat} (h : TW w0 w RS RO U g s M K T log frames (.slice (some ⟨gn, 0, none⟩) 6 cn) lv N) (i : Nat) (l : List UInt8) (hi : i < 6) :
    TW w0 (w.setCell ⟨gn, i, none⟩ (tS l)) RS RO U g s M K T log frames (.slice (some ⟨gn, 0, none⟩) 6 cn) lv (setP N i l) := by
  have hf : Fr (fun b => b = gn) w (w.setCell ⟨gn, i, none⟩ (tS l)) := (Fr.refl (fun b => b = gn) w).setCell (p := ⟨gn, i, none⟩) (.inr rfl) _
  have hng : ¬ All3 RS RO U gn := h.nvb gn rfl
  obtain ⟨cur, hcur⟩ := own_blk (show w.ownsRow _ 9 1 (.slice (some ⟨gn, 0, none⟩) 6 cn) 6 _ from h.now) (g := gn) rfl
  have hne : g ≠ gn := Blk.ne_ (t := 38) (t' := 9) h.wld hcur (by decide)
  have hlo := ((show w.ownsRow _ 9 1 (.slice (some ⟨gn, 0, none⟩) 6 cn) 6 _ from h.now).lt gn rfl).1
  exact ⟨h.wld.fr hf hne, h.tx.fr hf (fun b hb e => hng (e ▸ .inl hb)) (fun b hb e => hng (e ▸ .inr (.inl hb))) (fun b hb e => hng (e ▸ .inr (.inr hb))), Row6.set_ h.now i l hi, h.nvb, h.hi, h.ng, h.gg,
    h.fr.step hf (fun j hj e => by have e : j = gn := e; omega)⟩
/-- The Now row as memory has it. -/
theorem TW.form (h : TW w0 w RS RO U g s M K T log frames nv lv N) : ∃ gn cn, nv = .slice (some ⟨gn, 0, none⟩) 6 cn ∧ 6 ≤ cn ∧ gn < w.heap.size := by
  rcases (show w.ownsRow w0.heap.size 9 1 nv 6 _ from h.now).2 with ⟨_, e⟩ | ⟨gn, cn, cur, e, _, hh, h5, _⟩
  · omega
  · exact ⟨gn, cn, e, h5, Blk.lt hh⟩
/-- Rows of pages' texts, one behind the other, that nothing of A touches. -/
structure WasAt (w : World) (base : Nat) (A : Nat → Prop) (vw : Value) (i : Nat) (P : Nat → Pgs) : Prop where
  row : ∃ ss : List Value, w.ownsRow base 34 1 vw i ss ∧ ∀ k, k < i → ∃ gk ck, ss[k]? = some (.slice (some ⟨gk, 0, none⟩) 6 ck) ∧ Row6 w base (.slice (some ⟨gk, 0, none⟩) 6 ck) (P k) ∧ ¬ A gk
  ap : ∀ b, vw.ownBlock = some b → ¬ A b
theorem WasAt.fr {base i : Nat} {A F : Nat → Prop} {vw : Value} {P : Nat → Pgs} (h : WasAt w base A vw i P) (hf : Fr F w w') (hF : ∀ b, F b → A b) : WasAt w' base A vw i P := by
  obtain ⟨⟨ss, h1, h2⟩, h3⟩ := h
  refine ⟨⟨ss, own_fr h1 hf (fun b hb e => h3 b hb (hF b e)), fun k hk => ?_⟩, h3⟩
  obtain ⟨gk, ck, e1, e2, e3⟩ := h2 k hk
  exact ⟨gk, ck, e1, own_fr e2 hf (fun b hb e => by
    have : gk = b := by simpa [Value.ownBlock] using hb
    subst this
    exact e3 (hF _ e)), e3⟩
theorem WasAt.grow {base i : Nat} {A A' : Nat → Prop} {vw : Value} {P : Nat → Pgs} (h : WasAt w base A vw i P) (hA : ∀ b, A' b → A b ∨ w.heap.size ≤ b) : WasAt w base A' vw i P := by
  obtain ⟨⟨ss, h1, h2⟩, h3⟩ := h
  refine ⟨⟨ss, h1, fun k hk => ?_⟩, fun b hb e => ?_⟩
  · obtain ⟨gk, ck, e1, e2, e3⟩ := h2 k hk
    refine ⟨gk, ck, e1, e2, fun e => ?_⟩
    rcases hA gk e with e | e
    · exact e3 e
    · have := own_lt e2 (g := gk) rfl; omega
  · rcases hA b e with e | e
    · exact h3 b hb e
    · have := own_lt h1 hb; omega
theorem WasAt.step {base i : Nat} {A A' F : Nat → Prop} {vw : Value} {P : Nat → Pgs} (h : WasAt w base A vw i P) (hf : Fr F w w') (hF : ∀ b, F b → A b) (hA : ∀ b, A' b → A b ∨ w.heap.size ≤ b) : WasAt w' base A' vw i P := by
  have h1 := h.grow hA
  have h2 := h.fr hf hF
  obtain ⟨⟨ss, a1, a2⟩, a3⟩ := h1
  obtain ⟨⟨ss', b1, b2⟩, b3⟩ := h2
  obtain ⟨⟨ss0, c1, c2⟩, c3⟩ := h
  refine ⟨⟨ss0, own_fr c1 hf (fun b hb e => c3 b hb (hF b e)), fun k hk => ?_⟩, a3⟩
  obtain ⟨gk, ck, e1, e2, e3⟩ := c2 k hk
  refine ⟨gk, ck, e1, own_fr e2 hf (fun b hb e => by
    have : gk = b := by simpa [Value.ownBlock] using hb
    subst this
    exact e3 (hF _ e)), fun e => ?_⟩
  rcases hA gk e with e | e
  · exact e3 e
  · have := own_lt e2 (g := gk) rfl; omega
theorem WasAt.push {w1 w2 : World} {base i : Nat} {A : Nat → Prop} {vw v2 : Value} {P : Nat → Pgs} {ss : List Value} {gk ck : Nat} (h1 : w1.ownsRow base 34 1 vw i ss)
    (h2 : ∀ k, k < i → ∃ gk ck, ss[k]? = some (.slice (some ⟨gk, 0, none⟩) 6 ck) ∧ Row6 w1 base (.slice (some ⟨gk, 0, none⟩) 6 ck) (P k) ∧ ¬ A gk) (hrow : Row6 w1 base (.slice (some ⟨gk, 0, none⟩) 6 ck) (P i)) (hgk : ¬ A gk)
    (hf : Fr (fun b => vw.ownBlock = some b) w1 w2) (hown : w2.ownsRow base 34 1 v2 (i + 1) (ss ++ [.slice (some ⟨gk, 0, none⟩) 6 ck])) (hap : ∀ b, v2.ownBlock = some b → ¬ A b) : WasAt w2 base A v2 (i + 1) P := by
  have hl : ss.length = i := by have := h1.1; omega
  have hne : ∀ {g : Nat} {c : Nat} {C : Pgs}, Row6 w1 base (.slice (some ⟨g, 0, none⟩) 6 c) C → Row6 w2 base (.slice (some ⟨g, 0, none⟩) 6 c) C := fun {g c C} hr => own_fr hr hf (fun b hb e => by
    obtain ⟨cs1, hb1⟩ := own_blk (show w1.ownsRow base 9 1 _ 6 _ from hr) hb
    obtain ⟨cs2, hb2⟩ := own_blk h1 e
    exact Blk.ne_ (t := 9) (t' := 34) hb1 hb2 (by decide) rfl)
  refine ⟨⟨_, hown, fun k hk => ?_⟩, hap⟩
  rcases Nat.lt_or_ge k i with e | e
  · obtain ⟨g1, c1, e1, e2, e3⟩ := h2 k e
    exact ⟨g1, c1, by rw [List.getElem?_append_left (by omega)]; exact e1, hne e2, e3⟩
  · obtain rfl : k = i := by omega
    exact ⟨gk, ck, by rw [List.getElem?_append_right (by omega), hl, Nat.sub_self]; rfl, hne hrow, hgk⟩
/-- Something else turns. -/
theorem TW.other {F : Nat → Prop} (h : TW w0 w RS RO U g s M K T log frames nv lv N) (hf : Fr F w w') (hF : ∀ b, F b → ¬ All3 RS RO U b ∧ nv.ownBlock ≠ some b ∧ b ≠ g ∧ w0.heap.size ≤ b) : TW w0 w' RS RO U g s M K T log frames nv lv N :=
  ⟨h.wld.fr hf (fun e => (hF _ e).2.2.1 rfl), h.tx.fr hf (fun b hb e => (hF b e).1 (.inl hb)) (fun b hb e => (hF b e).1 (.inr (.inl hb))) (fun b hb e => (hF b e).1 (.inr (.inr hb))), own_fr h.now hf (fun b hb e => (hF b e).2.1 hb), h.nvb, h.hi, h.ng, h.gg, h.fr.step hf (fun i hi e => by have := (hF i e).2.2.2; omega)⟩
theorem row6_list_len (C : Pgs) : ((List.range 6).map fun i => tS (C i)).length = 6 * 1 := by simp
theorem row6_one (C : Pgs) : ∀ u ∈ ((List.range 6).map fun i => tS (C i)), u.oneCell' = true := by
  intro u hu
  obtain ⟨i, _, rfl⟩ := List.mem_map.1 hu
  rfl
end
end Go.Proofs.YtfapklpcgcgahaaGreatDoor
