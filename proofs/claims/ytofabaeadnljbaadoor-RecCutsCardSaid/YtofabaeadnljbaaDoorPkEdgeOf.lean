/-
  EdgeOf: what it says of bytes.
-/
import Derived.Test.YtofabaeadnljbaaDoorPkEdgeS
import Derived.Test.YtofabaeadnljbaaDoorReg
import Derived.Deep.DeepCutAuto
import Derived.Deep.CutBlock
namespace Go.Proofs.YtofabaeadnljbaaDoor
set_option linter.unusedSimpArgs false
set_option linter.unusedVariables false
open Go.RowKit
theorem edge_size : (Tryd.prog.info? 38).map (·.size) = some 6 := by kernel_rfl

set_option maxHeartbeats 6400000 in
set_option maxRecDepth 100000 in
theorem EdgeOf_any (A : Option Addr) (cp : Nat) (b : List UInt8) (w : World) (h : Bs w A cp b) (hl : b.length ≤ 140737488351232) :
    Calls Tryd.prog 14 #[.slice A b.length cp] w fun e w' => (∃ cs, e = .returned (.tuple #[.agg cs, .int .i64 (edgeErr b : Int)])) ∧ Fr Nob w w' := by
  obtain ⟨i0, hi0, hz0, hz1, hz2⟩ := info_parts' info_P'
  have qP := len_Ps
  have HR := Lib.hid (reader_any A cp b (w.alloc (.cells #[.int .i64 0, .int .i64 0, .int .i64 0, .slice none 0 0, .int .i64 0, .int .i64 0] 38)) (h.new ((Fr.refl Nob w).alloc _)))
  have HF0 : Hid (Fr (fun x => w.heap.size ≤ x) w (w.alloc (.cells #[.int .i64 0, .int .i64 0, .int .i64 0, .slice none 0 0, .int .i64 0, .int .i64 0] 38))) := (Fr.refl _ w).alloc _
  have HB0 : Hid (Blk (w.alloc (.cells #[.int .i64 0, .int .i64 0, .int .i64 0, .slice none 0 0, .int .i64 0, .int .i64 0] 38)) w.heap.size 38 #[.int .i64 0, .int .i64 0, .int .i64 0, .slice none 0 0, .int .i64 0, .int .i64 0]) := Blk.new w _ _
  clear h
  have HD : Hid (EdD b (Rd.of b).nx.nx.nx.nx.nx.nx (Rd.of b).nx.nx.nx.nx.nx.x) := rfl
  obtain ⟨r0, hr0⟩ : ∃ r, Rd.of b = r := ⟨_, rfl⟩
  have hl0 : r0.b.length ≤ 140737488351232 := by rw [← hr0]; exact hl
  have he0 : r0.e ≤ 5 := by rw [← hr0]; show 0 ≤ 5; omega
  rw [hr0] at HD
  have HR0 := Lib.hid hr0
  clear hr0
  go_enter Tryd.func14, Tryd.ntmps14
  go_wp2_with fail
  refine HR.out.mono ?_
  rintro e w1 ⟨rfl, hr1, hf1⟩
  rw [World.size_alloc, HR0.out] at hr1
  have HRd1 := Lib.hid hr1
  have HF1 : Hid (Fr (fun x => w.heap.size ≤ x) w w1) := HF0.out.trans (hf1.mono (fun _ _ h => h.elim))
  have HB1 := Lib.hid (HB0.out.fr hf1 (fun h => h))
  clear hr1 hf1 HR HB0 HF0
  have HN1 := Lib.hid (next_any HRd1.out hl0 he0)
  have hl1 : r0.nx.b.length ≤ 140737488351232 := by have := r0.nx_len; omega
  have he1 : r0.nx.e ≤ 5 := r0.nx_e he0
  obtain ⟨r1, hr1⟩ : ∃ r, r0.nx = r := ⟨_, rfl⟩
  rw [hr1] at hl1 he1 HN1 HD
  have hxr0 := r0.x_range
  obtain ⟨x0, hx0⟩ : ∃ x, r0.x = x := ⟨_, rfl⟩
  rw [hx0] at HN1 hxr0
  try rw [hx0] at HD
  clear hr1 hx0
  go_wp2_with fail
  refine HN1.out.mono ?_
  rintro e w2 ⟨rfl, hd2, hf2⟩
  have HRd2 := Lib.hid hd2
  have HF2 : Hid (Fr (fun x => w.heap.size ≤ x) w w2) := HF1.out.step hf2 (fun i _ h => by omega)
  have HB2 := Lib.hid (HB1.out.fr hf2 (fun h => by omega))
  clear hd2 hf2 HN1 HRd1 HF1 HB1
  have HN2 := Lib.hid (next_any HRd2.out hl1 he1)
  have hl2 : r1.nx.b.length ≤ 140737488351232 := by have := r1.nx_len; omega
  have he2 : r1.nx.e ≤ 5 := r1.nx_e he1
  obtain ⟨r2, hr2⟩ : ∃ r, r1.nx = r := ⟨_, rfl⟩
  rw [hr2] at hl2 he2 HN2 HD
  have hxr1 := r1.x_range
  obtain ⟨x1, hx1⟩ : ∃ x, r1.x = x := ⟨_, rfl⟩
  rw [hx1] at HN2 hxr1
  try rw [hx1] at HD
  clear hr2 hx1
  go_wp2_with fail
  refine HN2.out.mono ?_
  rintro e w3 ⟨rfl, hd3, hf3⟩
  have HRd3 := Lib.hid hd3
  have HF3 : Hid (Fr (fun x => w.heap.size ≤ x) w w3) := HF2.out.step hf3 (fun i _ h => by omega)
  have HB3 := Lib.hid (HB2.out.fr hf3 (fun h => by omega))
  clear hd3 hf3 HN2 HRd2 HF2 HB2
  have HN3 := Lib.hid (next_any HRd3.out hl2 he2)
  have hl3 : r2.nx.b.length ≤ 140737488351232 := by have := r2.nx_len; omega
  have he3 : r2.nx.e ≤ 5 := r2.nx_e he2
  obtain ⟨r3, hr3⟩ : ∃ r, r2.nx = r := ⟨_, rfl⟩
  rw [hr3] at hl3 he3 HN3 HD
  have hxr2 := r2.x_range
  obtain ⟨x2, hx2⟩ : ∃ x, r2.x = x := ⟨_, rfl⟩
  rw [hx2] at HN3 hxr2
  try rw [hx2] at HD
  clear hr3 hx2
  go_wp2_with fail
  refine HN3.out.mono ?_
  rintro e w4 ⟨rfl, hd4, hf4⟩
  have HRd4 := Lib.hid hd4
  have HF4 : Hid (Fr (fun x => w.heap.size ≤ x) w w4) := HF3.out.step hf4 (fun i _ h => by omega)
  have HB4 := Lib.hid (HB3.out.fr hf4 (fun h => by omega))
  clear hd4 hf4 HN3 HRd3 HF3 HB3
  have HN4 := Lib.hid (next_any HRd4.out hl3 he3)
  have hl4 : r3.nx.b.length ≤ 140737488351232 := by have := r3.nx_len; omega
  have he4 : r3.nx.e ≤ 5 := r3.nx_e he3
  obtain ⟨r4, hr4⟩ : ∃ r, r3.nx = r := ⟨_, rfl⟩
  rw [hr4] at hl4 he4 HN4 HD
  have hxr3 := r3.x_range
  obtain ⟨x3, hx3⟩ : ∃ x, r3.x = x := ⟨_, rfl⟩
  rw [hx3] at HN4 hxr3
  try rw [hx3] at HD
  clear hr4 hx3
  go_wp2_with fail
  refine HN4.out.mono ?_
  rintro e w5 ⟨rfl, hd5, hf5⟩
  have HRd5 := Lib.hid hd5
  have HF5 : Hid (Fr (fun x => w.heap.size ≤ x) w w5) := HF4.out.step hf5 (fun i _ h => by omega)
  have HB5 := Lib.hid (HB4.out.fr hf5 (fun h => by omega))
  clear hd5 hf5 HN4 HRd4 HF4 HB4
  have HN5 := Lib.hid (next_any HRd5.out hl4 he4)
  have hl5 : r4.nx.b.length ≤ 140737488351232 := by have := r4.nx_len; omega
  have he5 : r4.nx.e ≤ 5 := r4.nx_e he4
  obtain ⟨r5, hr5⟩ : ∃ r, r4.nx = r := ⟨_, rfl⟩
  rw [hr5] at hl5 he5 HN5 HD
  have hxr4 := r4.x_range
  obtain ⟨x4, hx4⟩ : ∃ x, r4.x = x := ⟨_, rfl⟩
  rw [hx4] at HN5 hxr4
  try rw [hx4] at HD
  clear hr5 hx4
  go_wp2_with fail
  refine HN5.out.mono ?_
  rintro e w6 ⟨rfl, hd6, hf6⟩
  have HRd6 := Lib.hid hd6
  have HF6 : Hid (Fr (fun x => w.heap.size ≤ x) w w6) := HF5.out.step hf6 (fun i _ h => by omega)
  have HB6 := Lib.hid (HB5.out.fr hf6 (fun h => by omega))
  clear hd6 hf6 HN5 HRd5 HF5 HB5
  have hs6 := HF6.out.size
  have hbd := HRd6.out.e.lt
  obtain ⟨W, hW⟩ : ∃ W, w6.alloc (.cells #[.int .i64 x0, .int .i64 x1, .int .i64 x2, .slice none 0 0, .int .i64 x3, .int .i64 x4] 38) = W := ⟨_, rfl⟩
  have HFW : Hid (Fr Nob w6 W) := by rw [← hW]; exact (Fr.refl _ w6).alloc _
  have HE6 : Hid (Blk W w6.heap.size 38 #[.int .i64 x0, .int .i64 x1, .int .i64 x2, .slice none 0 0, .int .i64 x3, .int .i64 x4]) := by rw [← hW]; exact Blk.new _ _ _
  have HN6 := Lib.hid (next_any (HRd6.out.new HFW.out) hl5 he5)
  have HF7 : Hid (Fr (fun x => w.heap.size ≤ x) w W) := HF6.out.trans (HFW.out.mono (fun _ _ h => h.elim))
  have HB7 := Lib.hid (HB6.out.fr HFW.out (fun h => h))
  have hl6 : r5.nx.b.length ≤ 140737488351232 := by have := r5.nx_len; omega
  have he6 : r5.nx.e ≤ 5 := r5.nx_e he5
  obtain ⟨r6, hr6⟩ : ∃ r, r5.nx = r := ⟨_, rfl⟩
  rw [hr6] at hl6 he6 HN6 HD
  have hNr := r5.x_range
  obtain ⟨N, hN⟩ : ∃ x, r5.x = x := ⟨_, rfl⟩
  rw [hN] at HN6 HD hNr
  clear hr6 hN
  obtain ⟨g6, hg6⟩ : ∃ g, w6.heap.size = g := ⟨_, rfl⟩
  rw [hg6] at HE6 hs6 hbd
  go_wp2_with fail
  try rw [hW]
  try rw [hg6]
  refine HN6.out.mono ?_
  rintro e w8 ⟨rfl, hd8, hf8⟩
  have HRd8 := Lib.hid hd8
  have HF8 : Hid (Fr (fun x => w.heap.size ≤ x) w w8) := HF7.out.step hf8 (fun i _ h => by omega)
  have HB8 := Lib.hid (HB7.out.fr hf8 (fun h => by omega))
  have HE8 := Lib.hid (HE6.out.fr hf8 (fun h => by omega))
  have hs8 := HE8.out.lt
  clear hd8 hf8 HN6 HRd6 HF6 HB6 HF7 HB7 HE6 hW hg6 HFW
  go_upto_region 4 with fail
  go_cut [8] (fun s8 wx => wx = w8 ∧ s8 = .bool (decide (0 ≤ N) && decide (N ≤ 64)))
  case first =>
    rcases (by omega : ¬ 0 ≤ N ∨ (0 ≤ N ∧ N ≤ 64) ∨ (0 ≤ N ∧ ¬ N ≤ 64)) with h | ⟨h, h2⟩ | ⟨h, h2⟩
    all_goals
      go_wp2_with fail
      go_meet
      case rel => exact ⟨rfl, by simp [h] <;> omega⟩
  case rest =>
    obtain ⟨rfl, rfl⟩ := hcut
    obtain ⟨okb, hok⟩ : ∃ o, (decide (0 ≤ N) && decide (N ≤ 64)) = o := ⟨_, rfl⟩
    rw [hok]
    have HSt := Lib.hid (Est.start HD.out okb hok.symm hl6 he6)
    clear hok hl6 he6 hl5 he5 hl4 he4 hl3 he3 hl2 he2 hl1 he1 hl0 he0 hxr0 hxr1 hxr2 hxr3 hxr4 HR0
    go_wp2
    have hn0 : Blk (wc.alloc (.cells #[.int .i64 0, .int .i64 0] 23)) wc.heap.size 23 #[.int .i64 0, .int .i64 0] := Blk.new wc _ _
    have hne0 : Fr Nob wc (wc.alloc (.cells #[.int .i64 0, .int .i64 0] 23)) := (Fr.refl _ wc).alloc _
    have hsz : (wc.alloc (.cells #[.int .i64 0, .int .i64 0] 23)).heap.size = wc.heap.size + 1 := World.size_alloc ..
    obtain ⟨w9, hw9⟩ : ∃ W, wc.alloc (.cells #[.int .i64 0, .int .i64 0] 23) = W := ⟨_, rfl⟩
    obtain ⟨g9, hg9⟩ : ∃ g, wc.heap.size = g := ⟨_, rfl⟩
    rw [hw9] at hn0 hne0 hsz ⊢
    rw [hg9] at hn0 hsz hs8 ⊢
    have HO : Hid (ElO w w.heap.size (w.heap.size + 1) g6 g9 w9.heap.size) := ⟨Nat.le_refl _, by omega, by omega, by omega, by omega⟩
    have HEl : Hid (EL w w9 w.heap.size (w.heap.size + 1) g6 g9 w9.heap.size r6 0 0 x0 x1 x2 x3 x4 0) := ⟨HRd8.out.new hne0, hn0, ⟨_, [], HE8.out.fr hne0 (fun h => h), World.ownsRow_nil _ _ _ _⟩, HB8.out.fr hne0 (fun h => h), HF8.out.trans (hne0.mono (fun _ _ h => h.elim)), Nat.le_refl _⟩
    obtain ⟨s, hs⟩ : ∃ s, w.heap.size = s := ⟨_, rfl⟩
    obtain ⟨base, hbase⟩ : ∃ s, w9.heap.size = s := ⟨_, rfl⟩
    rw [hs] at HO HEl ⊢
    rw [hbase] at HO HEl
    obtain ⟨B, hB⟩ : ∃ B, s + 1 = B := ⟨_, rfl⟩
    rw [hB] at HO HEl ⊢
    have HS := Lib.hid hs
    clear hs hbase hw9 hg9 hsz hn0 hne0 hB hs8 hs6 hbd HRd8 HF8 HB8 HE8
    go_loopw [8, 10, 11, 12, 13, 14] (fun okv iv _ _ _ _ wr => ∃ (ok : Bool) (i : Nat) (r : Rd) (p q : Int), okv = .bool ok ∧ iv = .int .i64 i ∧ Hid (Est b r6 N ok i r p q) ∧ Hid (EL w wr s B g6 g9 base r p q x0 x1 x2 x3 x4 i)) (fun _ iv _ _ _ _ _ => 65 - (intOf iv).toNat)
    case atStart => exact ⟨okb, 0, r6, 0, 0, rfl, rfl, HSt.out, HEl.out⟩
    case round =>
      obtain ⟨ok, i, r, p, q, rfl, rfl, hst, hel⟩ := hrel
      cases ok with
      | false =>
        have hbad := hst.out.bad rfl
        have hb6 : Blk _ s 38 #[.int .i64 0, .int .i64 0, .int .i64 0, .slice none 0 0, .int .i64 0, .int .i64 0] := hel.out.res
        have z0 := hb6.cell 0
        have z1 := hb6.cell 1
        have z2 := hb6.cell 2
        have z3 := hb6.cell 3
        have z4 := hb6.cell 4
        have z5 := hb6.cell 5
        have q0 := hb6.frozen 0
        have q1 := hb6.frozen 1
        have q2 := hb6.frozen 2
        have q3 := hb6.frozen 3
        have q4 := hb6.frozen 4
        have q5 := hb6.frozen 5
        have zlt := hb6.lt
        simp only [List.getElem?_toArray, List.getElem?_cons_zero, List.getElem?_cons_succ] at z0 z1 z2 z3 z4 z5
        have HB6 := Lib.hid hb6
        have HFr := Lib.hid hel.out.fr
        have HBad := Lib.hid hbad
        clear hb6 hbad
        go_wp2
        have hbE : Blk ((((((wr.setCell ⟨s, 0, none⟩ (.int .i64 0)).setCell ⟨s, 1, none⟩ (.int .i64 0)).setCell ⟨s, 2, none⟩ (.int .i64 0)).setCell ⟨s, 3, none⟩ (.slice none 0 0)).setCell ⟨s, 4, none⟩ (.int .i64 0)).setCell ⟨s, 5, none⟩ (.int .i64 0)) s 38 #[.int .i64 0, .int .i64 0, .int .i64 0, .slice none 0 0, .int .i64 0, .int .i64 0] := ((((((HB6.out.set_ 0 _).set_ 1 _).set_ 2 _).set_ 3 _).set_ 4 _).set_ 5 _)
        have hFE : Fr (fun x => s ≤ x) w ((((((wr.setCell ⟨s, 0, none⟩ (.int .i64 0)).setCell ⟨s, 1, none⟩ (.int .i64 0)).setCell ⟨s, 2, none⟩ (.int .i64 0)).setCell ⟨s, 3, none⟩ (.slice none 0 0)).setCell ⟨s, 4, none⟩ (.int .i64 0)).setCell ⟨s, 5, none⟩ (.int .i64 0)) := ((((((HFr.out.setCell (p := ⟨s, 0, none⟩) (.inl (by rw [HS.out]; exact Nat.le_refl s)) _).setCell (p := ⟨s, 1, none⟩) (.inl (by rw [HS.out]; exact Nat.le_refl s)) _).setCell (p := ⟨s, 2, none⟩) (.inl (by rw [HS.out]; exact Nat.le_refl s)) _).setCell (p := ⟨s, 3, none⟩) (.inl (by rw [HS.out]; exact Nat.le_refl s)) _).setCell (p := ⟨s, 4, none⟩) (.inl (by rw [HS.out]; exact Nat.le_refl s)) _).setCell (p := ⟨s, 5, none⟩) (.inl (by rw [HS.out]; exact Nat.le_refl s)) _)
        refine bodyPost_ret (results_cell_row_tmp rfl _ _ _ _ _ _ rfl hbE Tryd.underlying38 rfl edge_size) rfl ⟨⟨#[.int .i64 0, .int .i64 0, .int .i64 0, .slice none 0 0, .int .i64 0, .int .i64 0], ?_⟩, hFE.mono (fun i hi h => by have := HS.out; omega)⟩
        rw [HBad.out]; rfl
      | true =>
        obtain ⟨n0, n1, n2, _⟩ := hst.out.go rfl
        have hrl := hst.out.len
        have hre := hst.out.e
        by_cases hlt : (i : Int) < N
        · have hstep := Lib.hid (hst.out.step HD.out hlt)
          have o1 := HO.out.ob
          have o2 := HO.out.o6
          have o3 := HO.out.o9
          have o4 := HO.out.oz
          have hgB : ¬ (g9 = B ∨ g9 = B + 1) := by omega
          have HRd := Lib.hid (hel.out.rd.new ((Fr.refl Nob wr).drew))
          have HLs := Lib.hid hel.out.last
          clear hst
          go_wp2
          have hS : Fr (fun x => x = B ∨ x = B + 1) wr wr.drew := (Fr.refl _ wr).drew
          refine Rg.begin' (Fr (fun x => x = B ∨ x = B + 1) wr) [] (by kernel_rfl) ?_
          refine Rg.op 0 (some 49) hS (v := ?v0a) (a' := ?a0a) (hy := fun wz hwz => ?h0a) (ha := ?b0a) (h := ?_)
          case h0a => (go_simp; try with_reducible rfl)
          case b0a => (simp only [Act.put, List.setIfInBounds_toArray, List.set_cons_zero, List.set_cons_succ]; rfl)
          refine Rg.op 1 (some 50) hS (v := (.int .i64 p)) (a' := ?a1a) (hy := fun wz hwz => ?h1a) (ha := ?b1a) (h := ?_)
          case h1a => (have hb := (HLs.out.fr hwz (fun h => hgB h)); have cc := hb.cell 0; have hp := hb.lt; simp only [List.getElem?_toArray, List.getElem?_cons_zero, List.getElem?_cons_succ] at cc; clear hb; go_simp; try with_reducible rfl)
          case b1a => (simp only [Act.put, List.setIfInBounds_toArray, List.set_cons_zero, List.set_cons_succ]; rfl)
          refine Rg.op 2 (some 51) hS (v := ?v2a) (a' := ?a2a) (hy := fun wz hwz => ?h2a) (ha := ?b2a) (h := ?_)
          case h2a => (go_simp; try with_reducible rfl)
          case b2a => (simp only [Act.put, List.setIfInBounds_toArray, List.set_cons_zero, List.set_cons_succ]; rfl)
          refine Rg.call 3 (some 52) (hrun := ?h3a) (hcall := next_any HRd.out hrl hre) (h := ?_)
          case h3a => (go_simp)
          rintro e wa ⟨rfl, hda, hfa⟩
          have Sa : Fr (fun x => x = B ∨ x = B + 1) wr wa := hS.trans hfa
          have HEa := Lib.hid (EL.next HO.out hel.out Sa hda)
          clear hfa hda
          refine ⟨_, ?a3a, rfl, ?b3a, (fun _ => Sa), ?_⟩
          case b3a => (simp only [Act.put, List.setIfInBounds_toArray, List.set_cons_zero, List.set_cons_succ]; rfl)
          refine Rg.call 4 (some 53) (hrun := ?h4a) (hcall := sum_any p r.x _) (h := ?_)
          case h4a => (go_simp)
          rintro e wb ⟨rfl, rfl⟩
          refine ⟨_, ?a4a, rfl, ?b4a, (fun _ => Sa), ?_⟩
          case b4a => (simp only [Act.put, List.setIfInBounds_toArray, List.set_cons_zero, List.set_cons_succ]; rfl)
          refine Rg.op 5 (some 48) Sa (v := ?v5a) (a' := ?a5a) (hy := fun wz hwz => ?h5a) (ha := ?b5a) (h := ?_)
          case h5a => (go_simp; try with_reducible rfl)
          case b5a => (simp only [Act.put, List.setIfInBounds_toArray, List.set_cons_zero, List.set_cons_succ]; rfl)
          refine Rg.op 6 (some 54) Sa (v := ?v6a) (a' := ?a6a) (hy := fun wz hwz => ?h6a) (ha := ?b6a) (h := ?_)
          case h6a => (go_simp; try with_reducible rfl)
          case b6a => (simp only [Act.put, List.setIfInBounds_toArray, List.set_cons_zero, List.set_cons_succ]; rfl)
          refine Rg.op 7 (some 55) Sa (v := ?v7a) (a' := ?a7a) (hy := fun wz hwz => ?h7a) (ha := ?b7a) (h := ?_)
          case h7a => (go_simp; try with_reducible rfl)
          case b7a => (simp only [Act.put, List.setIfInBounds_toArray, List.set_cons_zero, List.set_cons_succ]; rfl)
          refine Rg.op 8 (some 11) Sa (v := ?v8a) (a' := ?a8a) (hy := fun wz hwz => ?h8a) (ha := ?b8a) (h := ?_)
          case h8a => (go_simp; try with_reducible rfl)
          case b8a => (simp only [Act.put, List.setIfInBounds_toArray, List.set_cons_zero, List.set_cons_succ]; rfl)
          refine Rg.op 9 (some 12) Sa (v := ?v9a) (a' := ?a9a) (hy := fun wz hwz => ?h9a) (ha := ?b9a) (h := ?_)
          case h9a => (go_simp; try with_reducible rfl)
          case b9a => (simp only [Act.put, List.setIfInBounds_toArray, List.set_cons_zero, List.set_cons_succ]; rfl)
          refine Rg.done _ (h := ?_)
          have hrl2 : r.nx.b.length ≤ 140737488351232 := by have := r.nx_len; omega
          have hre2 : r.nx.e ≤ 5 := r.nx_e hre
          have HRd2 := Lib.hid (HEa.out.rd.new ((Fr.refl Nob wa).drew))
          have HLs2 := Lib.hid HEa.out.last
          clear Sa hS HRd HLs
          go_wp2
          have hS2 : Fr (fun x => x = B ∨ x = B + 1) wa wa.drew := (Fr.refl _ wa).drew
          refine Rg.begin' (Fr (fun x => x = B ∨ x = B + 1) wa) [] (by kernel_rfl) ?_
          refine Rg.op 0 (some 57) hS2 (v := ?v0b) (a' := ?a0b) (hy := fun wz hwz => ?h0b) (ha := ?b0b) (h := ?_)
          case h0b => (go_simp; try with_reducible rfl)
          case b0b => (simp only [Act.put, List.setIfInBounds_toArray, List.set_cons_zero, List.set_cons_succ]; rfl)
          refine Rg.op 1 (some 58) hS2 (v := (.int .i64 q)) (a' := ?a1b) (hy := fun wz hwz => ?h1b) (ha := ?b1b) (h := ?_)
          case h1b => (have hb := (HLs2.out.fr hwz (fun h => hgB h)); have cc := hb.cell 1; have hp := hb.lt; simp only [List.getElem?_toArray, List.getElem?_cons_zero, List.getElem?_cons_succ] at cc; clear hb; go_simp; try with_reducible rfl)
          case b1b => (simp only [Act.put, List.setIfInBounds_toArray, List.set_cons_zero, List.set_cons_succ]; rfl)
          refine Rg.op 2 (some 59) hS2 (v := ?v2b) (a' := ?a2b) (hy := fun wz hwz => ?h2b) (ha := ?b2b) (h := ?_)
          case h2b => (go_simp; try with_reducible rfl)
          case b2b => (simp only [Act.put, List.setIfInBounds_toArray, List.set_cons_zero, List.set_cons_succ]; rfl)
          refine Rg.call 3 (some 60) (hrun := ?h3b) (hcall := next_any HRd2.out hrl2 hre2) (h := ?_)
          case h3b => (go_simp)
          rintro e wb ⟨rfl, hdb, hfb⟩
          have Sb : Fr (fun x => x = B ∨ x = B + 1) wa wb := hS2.trans hfb
          have HEb := Lib.hid (EL.next HO.out HEa.out Sb hdb)
          clear hfb hdb
          refine ⟨_, ?a3b, rfl, ?b3b, (fun _ => Sb), ?_⟩
          case b3b => (simp only [Act.put, List.setIfInBounds_toArray, List.set_cons_zero, List.set_cons_succ]; rfl)
          refine Rg.call 4 (some 61) (hrun := ?h4b) (hcall := sum_any q r.nx.x _) (h := ?_)
          case h4b => (go_simp)
          rintro e wc2 ⟨rfl, rfl⟩
          refine ⟨_, ?a4b, rfl, ?b4b, (fun _ => Sb), ?_⟩
          case b4b => (simp only [Act.put, List.setIfInBounds_toArray, List.set_cons_zero, List.set_cons_succ]; rfl)
          refine Rg.op 5 (some 56) Sb (v := ?v5b) (a' := ?a5b) (hy := fun wz hwz => ?h5b) (ha := ?b5b) (h := ?_)
          case h5b => (go_simp; try with_reducible rfl)
          case b5b => (simp only [Act.put, List.setIfInBounds_toArray, List.set_cons_zero, List.set_cons_succ]; rfl)
          refine Rg.op 6 (some 62) Sb (v := ?v6b) (a' := ?a6b) (hy := fun wz hwz => ?h6b) (ha := ?b6b) (h := ?_)
          case h6b => (go_simp; try with_reducible rfl)
          case b6b => (simp only [Act.put, List.setIfInBounds_toArray, List.set_cons_zero, List.set_cons_succ]; rfl)
          refine Rg.op 7 (some 63) Sb (v := ?v7b) (a' := ?a7b) (hy := fun wz hwz => ?h7b) (ha := ?b7b) (h := ?_)
          case h7b => (go_simp; try with_reducible rfl)
          case b7b => (simp only [Act.put, List.setIfInBounds_toArray, List.set_cons_zero, List.set_cons_succ]; rfl)
          refine Rg.op 8 (some 13) Sb (v := ?v8b) (a' := ?a8b) (hy := fun wz hwz => ?h8b) (ha := ?b8b) (h := ?_)
          case h8b => (go_simp; try with_reducible rfl)
          case b8b => (simp only [Act.put, List.setIfInBounds_toArray, List.set_cons_zero, List.set_cons_succ]; rfl)
          refine Rg.op 9 (some 14) Sb (v := ?v9b) (a' := ?a9b) (hy := fun wz hwz => ?h9b) (ha := ?b9b) (h := ?_)
          case h9b => (go_simp; try with_reducible rfl)
          case b9b => (simp only [Act.put, List.setIfInBounds_toArray, List.set_cons_zero, List.set_cons_succ]; rfl)
          refine Rg.done _ (h := ?_)
          clear Sb hS2 HRd2 HLs2
          obtain ⟨o1b, ho1⟩ : ∃ o, sumOk p r.x = o := ⟨_, rfl⟩
          obtain ⟨o2b, ho2⟩ : ∃ o, sumOk q r.nx.x = o := ⟨_, rfl⟩
          rw [ho1, ho2] at hstep
          rw [ho1, ho2]
          obtain ⟨p', hp'⟩ : ∃ o, w64 (p + r.x) = o := ⟨_, rfl⟩
          obtain ⟨q', hq'⟩ : ∃ o, w64 (q + r.nx.x) = o := ⟨_, rfl⟩
          rw [hp', hq'] at hstep
          rw [hp', hq']
          clear ho1 ho2 hp' hq'
          obtain ⟨v, xs, k1, k2⟩ := HEb.out.ed
          have hput := EL.put HO.out HEb.out p' q' k1 k2
          have HEd := Lib.hid hput.1
          have K1d := Lib.hid hput.2.1
          have K2d := Lib.hid hput.2.2.1
          have HCd := Lib.hid hput.2.2.2.1
          have hzd := hput.2.2.2.2
          have c3 := k1.cell 3
          have l6 := k1.lt
          have hlast := HEb.out.last
          have d0 := hlast.cell 0
          have d1 := hlast.cell 1
          have f0 := hlast.frozen 0
          have f1 := hlast.frozen 1
          have l9 := hlast.lt
          have hn69 : g6 ≠ g9 := by omega
          have hn96 : g9 ≠ g6 := by omega
          simp only [List.getElem?_toArray, List.getElem?_cons_zero, List.getElem?_cons_succ] at c3 d0 d1
          have ho1 : ∀ u ∈ [Value.int .i64 p', .int .i64 q'], u.oneCell' = true := by
            intro u hu; simp only [List.mem_cons, List.not_mem_nil, or_false] at hu; rcases hu with rfl | rfl <;> rfl
          have hi64 : i ≤ 64 := by omega
          clear hput hlast k1 k2
          cases o1b with
          | false =>
            go_wp2_with (at_builtin; go_must (refine wpList_append_own_at _ rfl (.tmp 72) (.tmp 74) 36 rfl base 23 i0 (.agg #[.int .i64 0, .int .i64 0]) 2 16 Tryd.underlying36 hi0 hz0 hz1 hz2 rfl (by decide) v i xs rfl K2d.out ⟨wb.heap.size, 0, none⟩ 1 1 [.int .i64 p', .int .i64 q'] rfl rfl HCd.out ho1 (by unfold maxLen; omega) (by omega) hzd ?_); intro v7 w7 hown7 hg7 hn7 hat7; obtain ⟨kb7, he7⟩ := EL.grown HO.out HEd.out K1d.out K2d.out hg7 hown7; have HE7 := Lib.hid he7; obtain ⟨ga, ca, rfl, _, _⟩ := hown7.form (by omega); have g63 := kb7.frozen 3; have g6c := kb7.cell 3; simp only [List.getElem?_toArray, List.getElem?_cons_zero, List.getElem?_cons_succ] at g6c; have g6l := kb7.lt; clear hown7 hg7 hn7 hat7 kb7 he7)
            go_roundw
            case rel => exact ⟨false && o2b, i + 1, r.nx.nx, p', q', rfl, by go_num, hstep.out, HE7.out⟩
            case measure => simp [intOf]; omega
          | true =>
            go_wp2_with (at_builtin; go_must (refine wpList_append_own_at _ rfl (.tmp 72) (.tmp 74) 36 rfl base 23 i0 (.agg #[.int .i64 0, .int .i64 0]) 2 16 Tryd.underlying36 hi0 hz0 hz1 hz2 rfl (by decide) v i xs rfl K2d.out ⟨wb.heap.size, 0, none⟩ 1 1 [.int .i64 p', .int .i64 q'] rfl rfl HCd.out ho1 (by unfold maxLen; omega) (by omega) hzd ?_); intro v7 w7 hown7 hg7 hn7 hat7; obtain ⟨kb7, he7⟩ := EL.grown HO.out HEd.out K1d.out K2d.out hg7 hown7; have HE7 := Lib.hid he7; obtain ⟨ga, ca, rfl, _, _⟩ := hown7.form (by omega); have g63 := kb7.frozen 3; have g6c := kb7.cell 3; simp only [List.getElem?_toArray, List.getElem?_cons_zero, List.getElem?_cons_succ] at g6c; have g6l := kb7.lt; clear hown7 hg7 hn7 hat7 kb7 he7)
            go_roundw
            case rel => exact ⟨true && o2b, i + 1, r.nx.nx, p', q', rfl, by go_num, hstep.out, HE7.out⟩
            case measure => simp [intOf]; omega
        · have hdone := hst.out.done HD.out hlt
          have HE := Lib.hid (end_any hel.out.rd hre)
          obtain ⟨st, hsT⟩ : ∃ x, r.stop = x := ⟨_, rfl⟩
          rw [hsT] at HE hdone
          have HDn := Lib.hid hdone
          clear hsT hdone
          go_wp2_with fail
          refine HE.out.mono ?_
          rintro e w7 ⟨rfl, hf7⟩
          obtain ⟨v, xs, h6, hown, hres, hfr⟩ := EL.after HO.out hel.out hf7
          have HFr := Lib.hid hfr
          have hd6 := h6
          have HOne := HO.out.o6
          have HOb := HO.out.ob
          have hs6 : s ≠ g6 := by omega
          have hs6' : g6 ≠ s := by omega
          have hb6 : Blk _ s 38 #[.int .i64 0, .int .i64 0, .int .i64 0, .slice none 0 0, .int .i64 0, .int .i64 0] := hres
          have z0 := hb6.cell 0
          have z1 := hb6.cell 1
          have z2 := hb6.cell 2
          have z3 := hb6.cell 3
          have z4 := hb6.cell 4
          have z5 := hb6.cell 5
          have q0 := hb6.frozen 0
          have q1 := hb6.frozen 1
          have q2 := hb6.frozen 2
          have q3 := hb6.frozen 3
          have q4 := hb6.frozen 4
          have q5 := hb6.frozen 5
          have zlt := hb6.lt
          simp only [List.getElem?_toArray, List.getElem?_cons_zero, List.getElem?_cons_succ] at z0 z1 z2 z3 z4 z5
          have HB6 := Lib.hid hb6
          clear hb6 hf7 HE hres hfr
          by_cases hs0 : st = 0
          · subst hs0
            rcases hown.2 with ⟨rfl, rfl⟩ | ⟨g, cap, cur, rfl, _, hh, hcap, _⟩
            · have e0 := h6.cell 0
              have e1 := h6.cell 1
              have e2 := h6.cell 2
              have e3 := h6.cell 3
              have e4 := h6.cell 4
              have e5 := h6.cell 5
              have f3 := h6.frozen 3
              have elt := h6.lt
              simp only [List.getElem?_toArray, List.getElem?_cons_zero, List.getElem?_cons_succ] at e0 e1 e2 e3 e4 e5
              have H6 := Lib.hid h6
              clear h6 hd6 hown
              go_wp2
              try (rw [qP]; go_wp2)
              try (rw [qP]; go_wp2)
              have hbE : Blk (((((((w7.setCell ⟨g6, 3, none⟩ (.slice none 0 0)).setCell ⟨s, 0, none⟩ (.int .i64 x0)).setCell ⟨s, 1, none⟩ (.int .i64 x1)).setCell ⟨s, 2, none⟩ (.int .i64 x2)).setCell ⟨s, 3, none⟩ (.slice none 0 0)).setCell ⟨s, 4, none⟩ (.int .i64 x3)).setCell ⟨s, 5, none⟩ (.int .i64 x4)) s 38 #[.int .i64 x0, .int .i64 x1, .int .i64 x2, .slice none 0 0, .int .i64 x3, .int .i64 x4] := (((((((HB6.out.far (p := ⟨g6, 3, none⟩) hs6 _).set_ 0 _).set_ 1 _).set_ 2 _).set_ 3 _).set_ 4 _).set_ 5 _)
              have hFE : Fr (fun x => s ≤ x) w (((((((w7.setCell ⟨g6, 3, none⟩ (.slice none 0 0)).setCell ⟨s, 0, none⟩ (.int .i64 x0)).setCell ⟨s, 1, none⟩ (.int .i64 x1)).setCell ⟨s, 2, none⟩ (.int .i64 x2)).setCell ⟨s, 3, none⟩ (.slice none 0 0)).setCell ⟨s, 4, none⟩ (.int .i64 x3)).setCell ⟨s, 5, none⟩ (.int .i64 x4)) := (((((((HFr.out.setCell (p := ⟨g6, 3, none⟩) (.inl (by show w.heap.size ≤ g6; have := HS.out; omega)) _).setCell (p := ⟨s, 0, none⟩) (.inl (by rw [HS.out]; exact Nat.le_refl s)) _).setCell (p := ⟨s, 1, none⟩) (.inl (by rw [HS.out]; exact Nat.le_refl s)) _).setCell (p := ⟨s, 2, none⟩) (.inl (by rw [HS.out]; exact Nat.le_refl s)) _).setCell (p := ⟨s, 3, none⟩) (.inl (by rw [HS.out]; exact Nat.le_refl s)) _).setCell (p := ⟨s, 4, none⟩) (.inl (by rw [HS.out]; exact Nat.le_refl s)) _).setCell (p := ⟨s, 5, none⟩) (.inl (by rw [HS.out]; exact Nat.le_refl s)) _)
              refine bodyPost_ret (results_cell_row_tmp rfl _ _ _ _ _ _ rfl hbE Tryd.underlying38 rfl edge_size) rfl ⟨⟨#[.int .i64 x0, .int .i64 x1, .int .i64 x2, .slice none 0 0, .int .i64 x3, .int .i64 x4], ?_⟩, hFE.mono (fun i hi h => by have := HS.out; omega)⟩
              rw [HDn.out]; rfl
            · have e0 := h6.cell 0
              have e1 := h6.cell 1
              have e2 := h6.cell 2
              have e3 := h6.cell 3
              have e4 := h6.cell 4
              have e5 := h6.cell 5
              have f3 := h6.frozen 3
              have elt := h6.lt
              simp only [List.getElem?_toArray, List.getElem?_cons_zero, List.getElem?_cons_succ] at e0 e1 e2 e3 e4 e5
              have hc1 : (i : Int) ≤ (cap : Int) := by omega
              have hc0 : (0 : Int) ≤ (i : Int) := by omega
              have H6 := Lib.hid h6
              clear h6 hd6 hown
              go_wp2
              try (rw [qP]; go_wp2)
              try (rw [qP]; go_wp2)
              have hbE : Blk (((((((w7.setCell ⟨g6, 3, none⟩ (.slice (some ⟨g, 0, none⟩) i i)).setCell ⟨s, 0, none⟩ (.int .i64 x0)).setCell ⟨s, 1, none⟩ (.int .i64 x1)).setCell ⟨s, 2, none⟩ (.int .i64 x2)).setCell ⟨s, 3, none⟩ (.slice (some ⟨g, 0, none⟩) i i)).setCell ⟨s, 4, none⟩ (.int .i64 x3)).setCell ⟨s, 5, none⟩ (.int .i64 x4)) s 38 #[.int .i64 x0, .int .i64 x1, .int .i64 x2, .slice (some ⟨g, 0, none⟩) i i, .int .i64 x3, .int .i64 x4] := (((((((HB6.out.far (p := ⟨g6, 3, none⟩) hs6 _).set_ 0 _).set_ 1 _).set_ 2 _).set_ 3 _).set_ 4 _).set_ 5 _)
              have hFE : Fr (fun x => s ≤ x) w (((((((w7.setCell ⟨g6, 3, none⟩ (.slice (some ⟨g, 0, none⟩) i i)).setCell ⟨s, 0, none⟩ (.int .i64 x0)).setCell ⟨s, 1, none⟩ (.int .i64 x1)).setCell ⟨s, 2, none⟩ (.int .i64 x2)).setCell ⟨s, 3, none⟩ (.slice (some ⟨g, 0, none⟩) i i)).setCell ⟨s, 4, none⟩ (.int .i64 x3)).setCell ⟨s, 5, none⟩ (.int .i64 x4)) := (((((((HFr.out.setCell (p := ⟨g6, 3, none⟩) (.inl (by show w.heap.size ≤ g6; have := HS.out; omega)) _).setCell (p := ⟨s, 0, none⟩) (.inl (by rw [HS.out]; exact Nat.le_refl s)) _).setCell (p := ⟨s, 1, none⟩) (.inl (by rw [HS.out]; exact Nat.le_refl s)) _).setCell (p := ⟨s, 2, none⟩) (.inl (by rw [HS.out]; exact Nat.le_refl s)) _).setCell (p := ⟨s, 3, none⟩) (.inl (by rw [HS.out]; exact Nat.le_refl s)) _).setCell (p := ⟨s, 4, none⟩) (.inl (by rw [HS.out]; exact Nat.le_refl s)) _).setCell (p := ⟨s, 5, none⟩) (.inl (by rw [HS.out]; exact Nat.le_refl s)) _)
              refine bodyPost_ret (results_cell_row_tmp rfl _ _ _ _ _ _ rfl hbE Tryd.underlying38 rfl edge_size) rfl ⟨⟨#[.int .i64 x0, .int .i64 x1, .int .i64 x2, .slice (some ⟨g, 0, none⟩) i i, .int .i64 x3, .int .i64 x4], ?_⟩, hFE.mono (fun i hi h => by have := HS.out; omega)⟩
              rw [HDn.out]; rfl
          · have ts : ((st : Int) == 0) = false := by rw [beq_eq_false_iff_ne]; omega
            clear h6 hd6 hown
            go_wp2
            have hbE : Blk ((((((w7.setCell ⟨s, 0, none⟩ (.int .i64 0)).setCell ⟨s, 1, none⟩ (.int .i64 0)).setCell ⟨s, 2, none⟩ (.int .i64 0)).setCell ⟨s, 3, none⟩ (.slice none 0 0)).setCell ⟨s, 4, none⟩ (.int .i64 0)).setCell ⟨s, 5, none⟩ (.int .i64 0)) s 38 #[.int .i64 0, .int .i64 0, .int .i64 0, .slice none 0 0, .int .i64 0, .int .i64 0] := ((((((HB6.out.set_ 0 _).set_ 1 _).set_ 2 _).set_ 3 _).set_ 4 _).set_ 5 _)
            have hFE : Fr (fun x => s ≤ x) w ((((((w7.setCell ⟨s, 0, none⟩ (.int .i64 0)).setCell ⟨s, 1, none⟩ (.int .i64 0)).setCell ⟨s, 2, none⟩ (.int .i64 0)).setCell ⟨s, 3, none⟩ (.slice none 0 0)).setCell ⟨s, 4, none⟩ (.int .i64 0)).setCell ⟨s, 5, none⟩ (.int .i64 0)) := ((((((HFr.out.setCell (p := ⟨s, 0, none⟩) (.inl (by rw [HS.out]; exact Nat.le_refl s)) _).setCell (p := ⟨s, 1, none⟩) (.inl (by rw [HS.out]; exact Nat.le_refl s)) _).setCell (p := ⟨s, 2, none⟩) (.inl (by rw [HS.out]; exact Nat.le_refl s)) _).setCell (p := ⟨s, 3, none⟩) (.inl (by rw [HS.out]; exact Nat.le_refl s)) _).setCell (p := ⟨s, 4, none⟩) (.inl (by rw [HS.out]; exact Nat.le_refl s)) _).setCell (p := ⟨s, 5, none⟩) (.inl (by rw [HS.out]; exact Nat.le_refl s)) _)
            refine bodyPost_ret (results_cell_row_tmp rfl _ _ _ _ _ _ rfl hbE Tryd.underlying38 rfl edge_size) rfl ⟨⟨#[.int .i64 0, .int .i64 0, .int .i64 0, .slice none 0 0, .int .i64 0, .int .i64 0], ?_⟩, hFE.mono (fun i hi h => by have := HS.out; omega)⟩
            rw [HDn.out]; rfl
end Go.Proofs.YtofabaeadnljbaaDoor
