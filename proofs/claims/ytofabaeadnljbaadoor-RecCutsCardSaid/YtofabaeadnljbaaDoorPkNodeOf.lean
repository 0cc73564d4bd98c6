/-
  NodeOf.
-/
import Derived.Test.YtofabaeadnljbaaDoorPkRead
import Derived.Laws.ResultCell
namespace Go.Proofs.YtofabaeadnljbaaDoor
set_option linter.unusedSimpArgs false
set_option linter.unusedVariables false
open Go.RowKit

theorem results_cell_row_tmp {P : Program} {fn : Func} {p u : Tmp} {ty : TypeId} (h : fn.results = #[.cell p ty, .tmp u]) (tmps : Array Value) (w : World) (g : Nat) (t : TypeId) (cs : Array Value) (d : TypeDesc)
    (hp : tmps.getD p undef = .pointer (some ⟨g, 0, none⟩)) (hg : Blk w g t cs)
    (hu : P.underlying ty = some d) (hd : (match d with | .struct _ | .array _ _ => true | _ => false) = true) (hi : (P.info? ty).map (·.size) = some cs.size) :
    (results fn tmps).run P w = .ok (.tuple #[.agg cs, tmps.getD u undef]) w := by
  rw [results_cell_tmp h, hp]
  simp [asAddr, run_loadVar_row w g t ty cs (0, 0) d hg hu hd hi]
theorem node_size : (Tryd.prog.info? 25).map (·.size) = some 4 := by kernel_rfl

set_option maxHeartbeats 3200000 in
set_option maxRecDepth 100000 in
theorem NodeOf_any (A : Option Addr) (cp : Nat) (b : List UInt8) (w : World) (h : Bs w A cp b) (hl : b.length ≤ 140737488351232) :
    Calls Tryd.prog 8 #[.slice A b.length cp] w fun e w' => e = .returned (.tuple #[(nodeOf b).1.v, .int .i64 ((nodeOf b).2 : Int)]) ∧ Fr Nob w w' := by
  have HR := Lib.hid (reader_any A cp b (w.alloc (.cells #[.int .i64 0, .int .i64 0, .int .i64 0, .int .i64 0] 25)) (h.new ((Fr.refl Nob w).alloc _)))
  have HF0 : Hid (Fr (fun x => w.heap.size ≤ x) w (w.alloc (.cells #[.int .i64 0, .int .i64 0, .int .i64 0, .int .i64 0] 25))) := (Fr.refl _ w).alloc _
  have HB0 : Hid (Blk (w.alloc (.cells #[.int .i64 0, .int .i64 0, .int .i64 0, .int .i64 0] 25)) w.heap.size 25 #[.int .i64 0, .int .i64 0, .int .i64 0, .int .i64 0]) := Blk.new w _ _
  clear h
  have HD : Hid (nodeOf b = if (Rd.of b).nx.nx.nx.nx.stop = 0 then (⟨(Rd.of b).x, (Rd.of b).nx.x, (Rd.of b).nx.nx.x, (Rd.of b).nx.nx.nx.x⟩, 0) else (Nd.zero, (Rd.of b).nx.nx.nx.nx.stop)) := rfl
  obtain ⟨r0, hr0⟩ : ∃ r, Rd.of b = r := ⟨_, rfl⟩
  have hl0 : r0.b.length ≤ 140737488351232 := by rw [← hr0]; exact hl
  have he0 : r0.e ≤ 5 := by rw [← hr0]; show 0 ≤ 5; omega
  rw [hr0] at HD
  have HR0 := Lib.hid hr0
  clear hr0
  go_enter Tryd.func8, Tryd.ntmps8
  go_wp2_with fail
  refine HR.out.mono ?_
  rintro e w1 ⟨rfl, hr1, hf1⟩
  rw [World.size_alloc, HR0.out] at hr1
  have HRd1 := Lib.hid hr1
  have HF1 : Hid (Fr (fun x => w.heap.size ≤ x) w w1) := HF0.out.trans (hf1.mono (fun _ _ h => h.elim))
  have HB1 := Lib.hid (HB0.out.fr hf1 (fun h => h))
  clear hr1 hf1 HR HB0 HF0
  have HN1 := Lib.hid (next_any HRd1.out hl0 he0)
  have hl1 : r0.nx.b.length ≤ 140737488351232 := by have := r0.nx_len; omega
  have he1 : r0.nx.e ≤ 5 := r0.nx_e he0
  obtain ⟨r1, hr1⟩ : ∃ r, r0.nx = r := ⟨_, rfl⟩
  rw [hr1] at hl1 he1 HN1 HD
  obtain ⟨x0, hx0⟩ : ∃ x, r0.x = x := ⟨_, rfl⟩
  rw [hx0] at HN1 HD
  clear hr1 hx0
  go_wp2_with fail
  refine HN1.out.mono ?_
  rintro e w2 ⟨rfl, hd2, hf2⟩
  have HRd2 := Lib.hid hd2
  have HF2 : Hid (Fr (fun x => w.heap.size ≤ x) w w2) := HF1.out.step hf2 (fun i _ h => by omega)
  have HB2 := Lib.hid (HB1.out.fr hf2 (fun h => by omega))
  clear hd2 hf2 HN1 HRd1 HF1 HB1
  have HN2 := Lib.hid (next_any HRd2.out hl1 he1)
  have hl2 : r1.nx.b.length ≤ 140737488351232 := by have := r1.nx_len; omega
  have he2 : r1.nx.e ≤ 5 := r1.nx_e he1
  obtain ⟨r2, hr2⟩ : ∃ r, r1.nx = r := ⟨_, rfl⟩
  rw [hr2] at hl2 he2 HN2 HD
  obtain ⟨x1, hx1⟩ : ∃ x, r1.x = x := ⟨_, rfl⟩
  rw [hx1] at HN2 HD
  clear hr2 hx1
  go_wp2_with fail
  refine HN2.out.mono ?_
  rintro e w3 ⟨rfl, hd3, hf3⟩
  have HRd3 := Lib.hid hd3
  have HF3 : Hid (Fr (fun x => w.heap.size ≤ x) w w3) := HF2.out.step hf3 (fun i _ h => by omega)
  have HB3 := Lib.hid (HB2.out.fr hf3 (fun h => by omega))
  clear hd3 hf3 HN2 HRd2 HF2 HB2
  have HN3 := Lib.hid (next_any HRd3.out hl2 he2)
  have hl3 : r2.nx.b.length ≤ 140737488351232 := by have := r2.nx_len; omega
  have he3 : r2.nx.e ≤ 5 := r2.nx_e he2
  obtain ⟨r3, hr3⟩ : ∃ r, r2.nx = r := ⟨_, rfl⟩
  rw [hr3] at hl3 he3 HN3 HD
  obtain ⟨x2, hx2⟩ : ∃ x, r2.x = x := ⟨_, rfl⟩
  rw [hx2] at HN3 HD
  clear hr3 hx2
  go_wp2_with fail
  refine HN3.out.mono ?_
  rintro e w4 ⟨rfl, hd4, hf4⟩
  have HRd4 := Lib.hid hd4
  have HF4 : Hid (Fr (fun x => w.heap.size ≤ x) w w4) := HF3.out.step hf4 (fun i _ h => by omega)
  have HB4 := Lib.hid (HB3.out.fr hf4 (fun h => by omega))
  clear hd4 hf4 HN3 HRd3 HF3 HB3
  have HN4 := Lib.hid (next_any HRd4.out hl3 he3)
  have hl4 : r3.nx.b.length ≤ 140737488351232 := by have := r3.nx_len; omega
  have he4 : r3.nx.e ≤ 5 := r3.nx_e he3
  obtain ⟨r4, hr4⟩ : ∃ r, r3.nx = r := ⟨_, rfl⟩
  rw [hr4] at hl4 he4 HN4 HD
  obtain ⟨x3, hx3⟩ : ∃ x, r3.x = x := ⟨_, rfl⟩
  rw [hx3] at HN4 HD
  clear hr4 hx3
  go_wp2_with fail
  refine HN4.out.mono ?_
  rintro e w5 ⟨rfl, hd5, hf5⟩
  have HRd5 := Lib.hid hd5
  have HF5 : Hid (Fr (fun x => w.heap.size ≤ x) w w5) := HF4.out.step hf5 (fun i _ h => by omega)
  have HB5 := Lib.hid (HB4.out.fr hf5 (fun h => by omega))
  clear hd5 hf5 HN4 HRd4 HF4 HB4
  obtain ⟨W, hW⟩ : ∃ W, (w5.alloc (.cells #[.int .i64 x0, .int .i64 x1, .int .i64 x2, .int .i64 x3] 25)) = W := ⟨_, rfl⟩
  have HFW : Hid (Fr Nob w5 W) := by rw [← hW]; exact (Fr.refl _ w5).alloc _
  have HBW : Hid (Blk W w5.heap.size 25 #[.int .i64 x0, .int .i64 x1, .int .i64 x2, .int .i64 x3]) := by rw [← hW]; exact Blk.new _ _ _
  have HE := Lib.hid (end_any (HRd5.out.new HFW.out) he4)
  obtain ⟨st, hst⟩ : ∃ s, r4.stop = s := ⟨_, rfl⟩
  rw [hst] at HE HD
  clear hst
  go_wp2_with fail
  try rw [hW]
  refine HE.out.mono ?_
  rintro e w6 ⟨rfl, hf6⟩
  have hsz5 := HF5.out.size
  have hb5 := HRd5.out.e.lt
  have hbw : Blk w6 w5.heap.size 25 #[.int .i64 x0, .int .i64 x1, .int .i64 x2, .int .i64 x3] := HBW.out.fr hf6 (fun h => by omega)
  have hb6 : Blk w6 w.heap.size 25 #[.int .i64 0, .int .i64 0, .int .i64 0, .int .i64 0] := (HB5.out.fr HFW.out (fun h => h)).fr hf6 (fun h => by omega)
  have HF6 : Hid (Fr (fun x => w.heap.size ≤ x) w w6) := (HF5.out.trans (HFW.out.mono (fun _ _ h => h.elim))).step hf6 (fun i _ h => by omega)
  have d0 := hbw.cell 0
  have d1 := hbw.cell 1
  have d2 := hbw.cell 2
  have d3 := hbw.cell 3
  have z0 := hb6.cell 0
  have z1 := hb6.cell 1
  have z2 := hb6.cell 2
  have z3 := hb6.cell 3
  have q0 := hb6.frozen 0
  have q1 := hb6.frozen 1
  have q2 := hb6.frozen 2
  have q3 := hb6.frozen 3
  have hlt5 := hbw.lt
  have hlt0 := hb6.lt
  simp only [List.getElem?_toArray, List.getElem?_cons_zero, List.getElem?_cons_succ] at d0 d1 d2 d3 z0 z1 z2 z3
  have HB6 := Lib.hid hb6
  clear hbw hb6 HE hf6 hW HBW HFW HRd5 HB5
  by_cases hs : st = 0
  · subst hs
    have HD0 : Hid (nodeOf b = (⟨x0, x1, x2, x3⟩, 0)) := by rw [Hid, HD.out, if_pos rfl]
    clear HD
    go_wp2
    have hbE : Blk ((((w6.setCell ⟨w.heap.size, 0, none⟩ (.int .i64 x0)).setCell ⟨w.heap.size, 1, none⟩ (.int .i64 x1)).setCell ⟨w.heap.size, 2, none⟩ (.int .i64 x2)).setCell ⟨w.heap.size, 3, none⟩ (.int .i64 x3)) w.heap.size 25 #[.int .i64 x0, .int .i64 x1, .int .i64 x2, .int .i64 x3] := (((HB6.out.set_ 0 _).set_ 1 _).set_ 2 _).set_ 3 _
    have hFE : Fr (fun x => w.heap.size ≤ x) w ((((w6.setCell ⟨w.heap.size, 0, none⟩ (.int .i64 x0)).setCell ⟨w.heap.size, 1, none⟩ (.int .i64 x1)).setCell ⟨w.heap.size, 2, none⟩ (.int .i64 x2)).setCell ⟨w.heap.size, 3, none⟩ (.int .i64 x3)) :=
      (((HF6.out.setCell (p := ⟨w.heap.size, 0, none⟩) (.inl (Nat.le_refl _)) _).setCell (p := ⟨w.heap.size, 1, none⟩) (.inl (Nat.le_refl _)) _).setCell (p := ⟨w.heap.size, 2, none⟩) (.inl (Nat.le_refl _)) _).setCell (p := ⟨w.heap.size, 3, none⟩) (.inl (Nat.le_refl _)) _
    refine bodyPost_ret (results_cell_row_tmp rfl _ _ _ _ _ _ rfl hbE Tryd.underlying25 rfl node_size) rfl ⟨?_, hFE.mono (fun i hi h => by omega)⟩
    rw [HD0.out]; rfl
  · have ts : ((st : Int) == 0) = false := by rw [beq_eq_false_iff_ne]; omega
    have HD0 : Hid (nodeOf b = (Nd.zero, st)) := by rw [Hid, HD.out, if_neg hs]
    clear HD
    go_wp2
    have hbE : Blk ((((w6.setCell ⟨w.heap.size, 0, none⟩ (.int .i64 0)).setCell ⟨w.heap.size, 1, none⟩ (.int .i64 0)).setCell ⟨w.heap.size, 2, none⟩ (.int .i64 0)).setCell ⟨w.heap.size, 3, none⟩ (.int .i64 0)) w.heap.size 25 #[.int .i64 0, .int .i64 0, .int .i64 0, .int .i64 0] := (((HB6.out.set_ 0 _).set_ 1 _).set_ 2 _).set_ 3 _
    have hFE : Fr (fun x => w.heap.size ≤ x) w ((((w6.setCell ⟨w.heap.size, 0, none⟩ (.int .i64 0)).setCell ⟨w.heap.size, 1, none⟩ (.int .i64 0)).setCell ⟨w.heap.size, 2, none⟩ (.int .i64 0)).setCell ⟨w.heap.size, 3, none⟩ (.int .i64 0)) :=
      (((HF6.out.setCell (p := ⟨w.heap.size, 0, none⟩) (.inl (Nat.le_refl _)) _).setCell (p := ⟨w.heap.size, 1, none⟩) (.inl (Nat.le_refl _)) _).setCell (p := ⟨w.heap.size, 2, none⟩) (.inl (Nat.le_refl _)) _).setCell (p := ⟨w.heap.size, 3, none⟩) (.inl (Nat.le_refl _)) _
    refine bodyPost_ret (results_cell_row_tmp rfl _ _ _ _ _ _ rfl hbE Tryd.underlying25 rfl node_size) rfl ⟨?_, hFE.mono (fun i hi h => by omega)⟩
    rw [HD0.out]; rfl
end Go.Proofs.YtofabaeadnljbaaDoor
