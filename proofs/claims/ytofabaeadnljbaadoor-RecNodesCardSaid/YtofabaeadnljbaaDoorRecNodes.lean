/-
  What RecNodes comes to: true, whatever the node and the bytes.
-/
import Derived.Test.YtofabaeadnljbaaDoorPkRNode
import Derived.Test.YtofabaeadnljbaaDoorPkAwake
namespace Go.Proofs.YtofabaeadnljbaaDoor
set_option linter.unusedSimpArgs false
set_option linter.unusedVariables false
open Go.RowKit

set_option maxHeartbeats 3200000 in
set_option maxRecDepth 100000 in
theorem RecNodes_row (n : Nd) (A : Option Addr) (cp : Nat) (b : List UInt8) (w : World) (hn : n.Ok) (hb : Bs w A cp b) (hl : b.length ≤ 140737488351232) :
    Calls Tryd.prog 3 #[n.v, .slice A b.length cp] w fun e w' => e = .returned (.bool true) ∧ Fr Nob w w' := by
  have HNd := Lib.hid (fun W => Node_any n W hn)
  have HRN := Lib.hid (fun W => RNode_any n W hn)
  have hno := nodeOf_b n hn
  have HNo : Hid (∀ W A cp, Bs W A cp n.b → Calls Tryd.prog 8 #[.slice A n.b.length cp] W fun e w' => e = .returned (.tuple #[n.v, .int .i64 0]) ∧ Fr Nob W w') := by
    intro W A cp h
    have hlen : n.b.length ≤ 40 := by
      have h1 := (nums_length n.l (fun x hx => by
        simp only [Nd.l, List.mem_cons, List.not_mem_nil, or_false] at hx
        rcases hx with rfl | rfl | rfl | rfl
        · exact ⟨hn.i0, hn.i1⟩
        · exact ⟨hn.x0, hn.x1⟩
        · exact ⟨hn.y0, hn.y1⟩
        · exact ⟨hn.f0, hn.f1⟩)).1
      exact h1
    have := NodeOf_any A cp n.b W h (by omega)
    rw [hno] at this
    exact this
  obtain ⟨nb, hnb⟩ : ∃ nb, n.b = nb := ⟨_, rfl⟩
  rw [hnb] at HNd HRN HNo
  have HBb := Lib.hid hb
  have HRo := Lib.hid (fun W => RNodeOf_any b W hl)
  have HNb := Lib.hid (fun W (hW : Fr Nob w W) => NodeOf_any A cp b W (hb.new hW) hl)
  have HCv := Lib.hid (fun W (hW : Fr Nob w W) => conv_in (hb.new hW).h cp)
  obtain ⟨y, e, hy⟩ : ∃ y e, nodeOf b = (y, e) := ⟨_, _, rfl⟩
  rw [hy] at HNb HRo
  obtain ⟨y0, y1, y2, y3⟩ := y
  obtain ⟨i0, i1, i2, i3⟩ := n
  clear hno hnb hy hb hn
  have HNd : Hid (∀ W, Calls Tryd.prog 7 #[.agg #[.int .i64 i0, .int .i64 i1, .int .i64 i2, .int .i64 i3]] W fun e w' => ∃ v, e = .returned v ∧ Made W w' v nb) := HNd
  have HRN : Hid (∀ W, Calls Tryd.prog 10 #[.agg #[.int .i64 i0, .int .i64 i1, .int .i64 i2, .int .i64 i3]] W fun e w' => e = .returned (.string ⟨nb.toArray⟩) ∧ Fr Nob W w') := HRN
  have HNo : Hid (∀ W A cp, Bs W A cp nb → Calls Tryd.prog 8 #[.slice A nb.length cp] W fun e w' => e = .returned (.tuple #[.agg #[.int .i64 i0, .int .i64 i1, .int .i64 i2, .int .i64 i3], .int .i64 0]) ∧ Fr Nob W w') := HNo
  have HNb : Hid (∀ W, Fr Nob w W → Calls Tryd.prog 8 #[.slice A b.length cp] W fun e' w' => e' = .returned (.tuple #[.agg #[.int .i64 y0, .int .i64 y1, .int .i64 y2, .int .i64 y3], .int .i64 (e : Int)]) ∧ Fr Nob W w') := HNb
  have HRo : Hid (∀ W, Calls Tryd.prog 9 #[.string ⟨b.toArray⟩] W fun e' w' => e' = .returned (.tuple #[.agg #[.int .i64 y0, .int .i64 y1, .int .i64 y2, .int .i64 y3], .int .i64 (e : Int)]) ∧ Fr Nob W w') := HRo
  show Calls _ _ #[.agg #[.int .i64 i0, .int .i64 i1, .int .i64 i2, .int .i64 i3], .slice A b.length cp] _ _
  go_enter Tryd.func3, Tryd.ntmps3
  go_wp2_with fail
  have hF1 : Fr Nob w (w.alloc (.cells #[.int .i64 i0, .int .i64 i1, .int .i64 i2, .int .i64 i3] 25)) := (Fr.refl Nob w).alloc _
  have hB1 : Blk (w.alloc (.cells #[.int .i64 i0, .int .i64 i1, .int .i64 i2, .int .i64 i3] 25)) w.heap.size 25 #[.int .i64 i0, .int .i64 i1, .int .i64 i2, .int .i64 i3] := Blk.new w _ _
  refine (HNd.out _).mono ?_
  rintro e' w2 ⟨v, rfl, g, rfl, hb2, hg1, hg2, hf2⟩
  have HF2 : Hid (Fr Nob w w2) := hF1.trans hf2
  have HB2 := Lib.hid (hB1.fr hf2 (fun h => h))
  have HS2 : Hid (Bs w2 (some ⟨g, 0, none⟩) nb.length nb) := ⟨hb2, Nat.le_refl _, .inr ⟨_, rfl⟩⟩
  have HNo2 := Lib.hid (HNo.out w2 _ _ HS2.out)
  clear hB1 hF1 hb2 hf2 HNd HNo hg1 hg2
  go_wp2_with fail
  refine HNo2.out.mono ?_
  rintro e' w3 ⟨rfl, hf3⟩
  have HF3 : Hid (Fr Nob w w3) := HF2.out.trans hf3
  have HB3 := Lib.hid (HB2.out.fr hf3 (fun h => h))
  have HS3 := Lib.hid (HS2.out.new hf3)
  clear hf3 HNo2 HB2 HS2 HF2
  go_wp2_with fail
  have hF4 : Fr Nob w (w3.alloc (.cells #[.int .i64 i0, .int .i64 i1, .int .i64 i2, .int .i64 i3] 25)) := HF3.out.alloc _
  have hM4 : Blk (w3.alloc (.cells #[.int .i64 i0, .int .i64 i1, .int .i64 i2, .int .i64 i3] 25)) w3.heap.size 25 #[.int .i64 i0, .int .i64 i1, .int .i64 i2, .int .i64 i3] := Blk.new w3 _ _
  have hB4 := HB3.out.alloc (.cells #[.int .i64 i0, .int .i64 i1, .int .i64 i2, .int .i64 i3] 25)
  have hS4 := HS3.out.new ((Fr.refl Nob w3).alloc (.cells #[.int .i64 i0, .int .i64 i1, .int .i64 i2, .int .i64 i3] 25))
  refine (HNb.out _ hF4).mono ?_
  rintro e' w5 ⟨rfl, hf5⟩
  have HF5 : Hid (Fr Nob w w5) := hF4.trans hf5
  have HM5 := Lib.hid (hM4.fr hf5 (fun h => h))
  have HB5 := Lib.hid (hB4.fr hf5 (fun h => h))
  have HS5 := Lib.hid (hS4.new hf5)
  clear hF4 hM4 hB4 hS4 hf5 HNb HB3 HS3 HF3
  have hcvb := HCv.out (w5.alloc (.cells #[.int .i64 y0, .int .i64 y1, .int .i64 y2, .int .i64 y3] 25)) (HF5.out.alloc _)
  go_wp2_with fail
  have hF6 : Fr Nob w (w5.alloc (.cells #[.int .i64 y0, .int .i64 y1, .int .i64 y2, .int .i64 y3] 25)) := HF5.out.alloc _
  have hX6 : Blk (w5.alloc (.cells #[.int .i64 y0, .int .i64 y1, .int .i64 y2, .int .i64 y3] 25)) w5.heap.size 25 #[.int .i64 y0, .int .i64 y1, .int .i64 y2, .int .i64 y3] := Blk.new w5 _ _
  have hM6 := HM5.out.alloc (.cells #[.int .i64 y0, .int .i64 y1, .int .i64 y2, .int .i64 y3] 25)
  have hB6 := HB5.out.alloc (.cells #[.int .i64 y0, .int .i64 y1, .int .i64 y2, .int .i64 y3] 25)
  have hS6 := HS5.out.new ((Fr.refl Nob w5).alloc (.cells #[.int .i64 y0, .int .i64 y1, .int .i64 y2, .int .i64 y3] 25))
  refine (HRo.out _).mono ?_
  rintro e' w7 ⟨rfl, hf7⟩
  have HF7 : Hid (Fr Nob w w7) := hF6.trans hf7
  have HX7 := Lib.hid (hX6.fr hf7 (fun h => h))
  have HM7 := Lib.hid (hM6.fr hf7 (fun h => h))
  have HB7 := Lib.hid (hB6.fr hf7 (fun h => h))
  have HS7 := Lib.hid (hS6.new hf7)
  clear hF6 hX6 hM6 hB6 hS6 hf7 HRo HM5 HB5 HS5 HF5 hcvb
  go_wp2
  obtain ⟨w8, hw8⟩ : ∃ W, w7.alloc (.cells #[.int .i64 y0, .int .i64 y1, .int .i64 y2, .int .i64 y3] 25) = W := ⟨_, rfl⟩
  have HF8 : Hid (Fr Nob w w8) := by rw [← hw8]; exact HF7.out.alloc _
  have HY8 : Hid (Blk w8 w7.heap.size 25 #[.int .i64 y0, .int .i64 y1, .int .i64 y2, .int .i64 y3]) := by rw [← hw8]; exact Blk.new w7 _ _
  have HX8 : Hid (Blk w8 w5.heap.size 25 #[.int .i64 y0, .int .i64 y1, .int .i64 y2, .int .i64 y3]) := by rw [← hw8]; exact HX7.out.alloc _
  have HM8 : Hid (Blk w8 w3.heap.size 25 #[.int .i64 i0, .int .i64 i1, .int .i64 i2, .int .i64 i3]) := by rw [← hw8]; exact HM7.out.alloc _
  have HB8 : Hid (Blk w8 w.heap.size 25 #[.int .i64 i0, .int .i64 i1, .int .i64 i2, .int .i64 i3]) := by rw [← hw8]; exact HB7.out.alloc _
  have HS8 : Hid (Bs w8 (some ⟨g, 0, none⟩) nb.length nb) := by rw [← hw8]; exact HS7.out.new ((Fr.refl Nob w7).alloc _)
  try rw [hw8]
  clear hw8 HX7 HM7 HB7 HS7 HF7
  have hS : Fr Nob w8 w8.drew := (Fr.refl _ w8).drew
  refine Rg.begin (Fr Nob w8) [] (by kernel_rfl) ?_
  refine Rg.op 0 (some 30) hS (v := ?v0) (a' := ?a0) (hy := fun wz hwz => ?h0) (ha := ?b0) (h := ?_)
  case h0 => (go_simp; try with_reducible rfl)
  case b0 => (simp only [Act.put, List.setIfInBounds_toArray, List.set_cons_zero, List.set_cons_succ]; rfl)
  refine Rg.op 1 (some 31) hS (v := (.string ⟨nb.toArray⟩)) (a' := ?a1) (hy := fun wz hwz => ?h1) (ha := ?b1) (h := ?_)
  case h1 => (have hcv := conv_in (HS8.out.new hwz).h nb.length; go_simp; try with_reducible rfl)
  case b1 => (simp only [Act.put, List.setIfInBounds_toArray, List.set_cons_zero, List.set_cons_succ]; rfl)
  refine Rg.op 2 (some 32) hS (v := (.agg #[.int .i64 i0, .int .i64 i1, .int .i64 i2, .int .i64 i3])) (a' := ?a2) (hy := fun wz hwz => ?h2) (ha := ?b2) (h := ?_)
  case h2 => (have hb := (HB8.out.fr hwz (fun h => h)); have k0 := hb.cell 0; have k1 := hb.cell 1; have k2 := hb.cell 2; have k3 := hb.cell 3; have hp := hb.lt; simp only [List.getElem?_toArray, List.getElem?_cons_zero, List.getElem?_cons_succ] at k0 k1 k2 k3; clear hb; go_simp; try with_reducible rfl)
  case b2 => (simp only [Act.put, List.setIfInBounds_toArray, List.set_cons_zero, List.set_cons_succ]; rfl)
  refine Rg.call 3 (some 33) (hrun := ?h3) (hcall := HRN.out _) (h := ?_)
  case h3 => (go_simp)
  rintro e' w9 ⟨rfl, hf9⟩
  have S9 : Fr Nob w8 w9 := hS.trans hf9
  clear hf9
  refine ⟨_, ?a3, rfl, ?b3, (fun _ => S9), ?_⟩
  case b3 => (simp only [Act.put, List.setIfInBounds_toArray, List.set_cons_zero, List.set_cons_succ]; rfl)
  refine Rg.op 4 (some 34) S9 (v := (.bool true)) (a' := ?a4) (hy := fun wz hwz => ?h4) (ha := ?b4) (h := ?_)
  case h4 => (go_simp; try with_reducible rfl)
  case b4 => (simp only [Act.put, List.setIfInBounds_toArray, List.set_cons_zero, List.set_cons_succ]; rfl)
  refine Rg.op 5 (some 35) S9 (v := ?v5) (a' := ?a5) (hy := fun wz hwz => ?h5) (ha := ?b5) (h := ?_)
  case h5 => (go_simp; try with_reducible rfl)
  case b5 => (simp only [Act.put, List.setIfInBounds_toArray, List.set_cons_zero, List.set_cons_succ]; rfl)
  refine Rg.op 6 (some 36) S9 (v := (.agg #[.int .i64 i0, .int .i64 i1, .int .i64 i2, .int .i64 i3])) (a' := ?a6) (hy := fun wz hwz => ?h6) (ha := ?b6) (h := ?_)
  case h6 => (have hb := (HM8.out.fr hwz (fun h => h)); have k0 := hb.cell 0; have k1 := hb.cell 1; have k2 := hb.cell 2; have k3 := hb.cell 3; have hp := hb.lt; simp only [List.getElem?_toArray, List.getElem?_cons_zero, List.getElem?_cons_succ] at k0 k1 k2 k3; clear hb; go_simp; try with_reducible rfl)
  case b6 => (simp only [Act.put, List.setIfInBounds_toArray, List.set_cons_zero, List.set_cons_succ]; rfl)
  refine Rg.op 7 (some 37) S9 (v := (.agg #[.int .i64 i0, .int .i64 i1, .int .i64 i2, .int .i64 i3])) (a' := ?a7) (hy := fun wz hwz => ?h7) (ha := ?b7) (h := ?_)
  case h7 => (have hb := (HB8.out.fr hwz (fun h => h)); have k0 := hb.cell 0; have k1 := hb.cell 1; have k2 := hb.cell 2; have k3 := hb.cell 3; have hp := hb.lt; simp only [List.getElem?_toArray, List.getElem?_cons_zero, List.getElem?_cons_succ] at k0 k1 k2 k3; clear hb; go_simp; try with_reducible rfl)
  case b7 => (simp only [Act.put, List.setIfInBounds_toArray, List.set_cons_zero, List.set_cons_succ]; rfl)
  refine Rg.op 8 (some 38) S9 (v := (.bool true)) (a' := ?a8) (hy := fun wz hwz => ?h8) (ha := ?b8) (h := ?_)
  case h8 => (go_simp; try with_reducible rfl)
  case b8 => (simp only [Act.put, List.setIfInBounds_toArray, List.set_cons_zero, List.set_cons_succ]; rfl)
  refine Rg.op 9 (some 39) S9 (v := ?v9) (a' := ?a9) (hy := fun wz hwz => ?h9) (ha := ?b9) (h := ?_)
  case h9 => (go_simp; try with_reducible rfl)
  case b9 => (simp only [Act.put, List.setIfInBounds_toArray, List.set_cons_zero, List.set_cons_succ]; rfl)
  refine Rg.op 10 (some 40) S9 (v := ?v10) (a' := ?a10) (hy := fun wz hwz => ?h10) (ha := ?b10) (h := ?_)
  case h10 => (go_simp; try with_reducible rfl)
  case b10 => (simp only [Act.put, List.setIfInBounds_toArray, List.set_cons_zero, List.set_cons_succ]; rfl)
  refine Rg.op 11 (some 41) S9 (v := ?v11) (a' := ?a11) (hy := fun wz hwz => ?h11) (ha := ?b11) (h := ?_)
  case h11 => (go_simp; try with_reducible rfl)
  case b11 => (simp only [Act.put, List.setIfInBounds_toArray, List.set_cons_zero, List.set_cons_succ]; rfl)
  refine Rg.op 12 (some 42) S9 (v := (.bool true)) (a' := ?a12) (hy := fun wz hwz => ?h12) (ha := ?b12) (h := ?_)
  case h12 => (go_simp; try with_reducible rfl)
  case b12 => (simp only [Act.put, List.setIfInBounds_toArray, List.set_cons_zero, List.set_cons_succ]; rfl)
  refine Rg.op 13 (some 43) S9 (v := ?v13) (a' := ?a13) (hy := fun wz hwz => ?h13) (ha := ?b13) (h := ?_)
  case h13 => (go_simp; try with_reducible rfl)
  case b13 => (simp only [Act.put, List.setIfInBounds_toArray, List.set_cons_zero, List.set_cons_succ]; rfl)
  refine Rg.op 14 (some 44) S9 (v := ?v14) (a' := ?a14) (hy := fun wz hwz => ?h14) (ha := ?b14) (h := ?_)
  case h14 => (go_simp; try with_reducible rfl)
  case b14 => (simp only [Act.put, List.setIfInBounds_toArray, List.set_cons_zero, List.set_cons_succ]; rfl)
  refine Rg.op 15 (some 45) S9 (v := (.agg #[.int .i64 y0, .int .i64 y1, .int .i64 y2, .int .i64 y3])) (a' := ?a15) (hy := fun wz hwz => ?h15) (ha := ?b15) (h := ?_)
  case h15 => (have hb := (HX8.out.fr hwz (fun h => h)); have k0 := hb.cell 0; have k1 := hb.cell 1; have k2 := hb.cell 2; have k3 := hb.cell 3; have hp := hb.lt; simp only [List.getElem?_toArray, List.getElem?_cons_zero, List.getElem?_cons_succ] at k0 k1 k2 k3; clear hb; go_simp; try with_reducible rfl)
  case b15 => (simp only [Act.put, List.setIfInBounds_toArray, List.set_cons_zero, List.set_cons_succ]; rfl)
  refine Rg.op 16 (some 46) S9 (v := (.agg #[.int .i64 y0, .int .i64 y1, .int .i64 y2, .int .i64 y3])) (a' := ?a16) (hy := fun wz hwz => ?h16) (ha := ?b16) (h := ?_)
  case h16 => (have hb := (HY8.out.fr hwz (fun h => h)); have k0 := hb.cell 0; have k1 := hb.cell 1; have k2 := hb.cell 2; have k3 := hb.cell 3; have hp := hb.lt; simp only [List.getElem?_toArray, List.getElem?_cons_zero, List.getElem?_cons_succ] at k0 k1 k2 k3; clear hb; go_simp; try with_reducible rfl)
  case b16 => (simp only [Act.put, List.setIfInBounds_toArray, List.set_cons_zero, List.set_cons_succ]; rfl)
  refine Rg.op 17 (some 47) S9 (v := (.bool true)) (a' := ?a17) (hy := fun wz hwz => ?h17) (ha := ?b17) (h := ?_)
  case h17 => (go_simp; try with_reducible rfl)
  case b17 => (simp only [Act.put, List.setIfInBounds_toArray, List.set_cons_zero, List.set_cons_succ]; rfl)
  refine Rg.op 18 (some 48) S9 (v := ?v18) (a' := ?a18) (hy := fun wz hwz => ?h18) (ha := ?b18) (h := ?_)
  case h18 => (go_simp; try with_reducible rfl)
  case b18 => (simp only [Act.put, List.setIfInBounds_toArray, List.set_cons_zero, List.set_cons_succ]; rfl)
  refine Rg.op 19 (some 49) S9 (v := ?v19) (a' := ?a19) (hy := fun wz hwz => ?h19) (ha := ?b19) (h := ?_)
  case h19 => (go_simp; try with_reducible rfl)
  case b19 => (simp only [Act.put, List.setIfInBounds_toArray, List.set_cons_zero, List.set_cons_succ]; rfl)
  refine Rg.op 20 (some 50) S9 (v := ?v20) (a' := ?a20) (hy := fun wz hwz => ?h20) (ha := ?b20) (h := ?_)
  case h20 => (go_simp; try with_reducible rfl)
  case b20 => (simp only [Act.put, List.setIfInBounds_toArray, List.set_cons_zero, List.set_cons_succ]; rfl)
  refine Rg.op 21 (some 51) S9 (v := ?v21) (a' := ?a21) (hy := fun wz hwz => ?h21) (ha := ?b21) (h := ?_)
  case h21 => (go_simp; try with_reducible rfl)
  case b21 => (simp only [Act.put, List.setIfInBounds_toArray, List.set_cons_zero, List.set_cons_succ]; rfl)
  refine Rg.op 22 (some 52) S9 (v := (.bool true)) (a' := ?a22) (hy := fun wz hwz => ?h22) (ha := ?b22) (h := ?_)
  case h22 => (go_simp; try with_reducible rfl)
  case b22 => (simp only [Act.put, List.setIfInBounds_toArray, List.set_cons_zero, List.set_cons_succ]; rfl)
  refine Rg.op 23 (some 53) S9 (v := ?v23) (a' := ?a23) (hy := fun wz hwz => ?h23) (ha := ?b23) (h := ?_)
  case h23 => (go_simp; try with_reducible rfl)
  case b23 => (simp only [Act.put, List.setIfInBounds_toArray, List.set_cons_zero, List.set_cons_succ]; rfl)
  refine Rg.op 24 (some 54) S9 (v := ?v24) (a' := ?a24) (hy := fun wz hwz => ?h24) (ha := ?b24) (h := ?_)
  case h24 => (go_simp; try with_reducible rfl)
  case b24 => (simp only [Act.put, List.setIfInBounds_toArray, List.set_cons_zero, List.set_cons_succ]; rfl)
  refine Rg.call 25 (some 55) (hrun := ?h25) (hcall := awake21_any _) (h := ?_)
  case h25 => (go_simp)
  rintro e' w10 ⟨rfl, hf10⟩
  have S10 : Fr Nob w8 w10 := S9.trans hf10
  clear hf10
  refine ⟨_, ?a25, rfl, ?b25, (fun _ => S10), ?_⟩
  case b25 => (simp only [Act.put, List.setIfInBounds_toArray, List.set_cons_zero, List.set_cons_succ]; rfl)
  refine Rg.op 26 (some 56) S10 (v := ?v26) (a' := ?a26) (hy := fun wz hwz => ?h26) (ha := ?b26) (h := ?_)
  case h26 => (go_simp; try with_reducible rfl)
  case b26 => (simp only [Act.put, List.setIfInBounds_toArray, List.set_cons_zero, List.set_cons_succ]; rfl)
  refine Rg.op 27 (some 4) S10 (v := ?v27) (a' := ?a27) (hy := fun wz hwz => ?h27) (ha := ?b27) (h := ?_)
  case h27 => (go_simp; try with_reducible rfl)
  case b27 => (simp only [Act.put, List.setIfInBounds_toArray, List.set_cons_zero, List.set_cons_succ]; rfl)
  refine Rg.done _ (h := ?_)
  go_wp2
  go_ret
  exact ⟨rfl, HF8.out.trans S10⟩
end Go.Proofs.YtofabaeadnljbaaDoor
