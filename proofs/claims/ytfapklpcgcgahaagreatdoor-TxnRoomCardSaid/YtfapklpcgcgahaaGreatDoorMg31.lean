/-
  TxnBack, in one text.
-/
import Derived.Test.YtfapklpcgcgahaaGreatDoorMg30
/-
  back: all changes from one on are undone.
-/
namespace Go.Proofs.YtfapklpcgcgahaaGreatDoor
set_option linter.unusedSimpArgs false
set_option linter.unusedVariables false
open Go.RowKit Go.Maps

def chgLen : Option Value → Nat
  | some (.slice _ n _) => n
  | _ => 0
theorem change_size : (Tryz.prog.info? 93).map (·.size) = some 4 := by kernel_rfl
theorem needAll_take (cs : List Chg) (m : Nat) (c : Chg) (h : cs[m]? = some c) : needAll (cs.take (m + 1)) = needAll (cs.take m) + needC c := by
  rw [List.take_add_one, h]
  exact needAll_snoc _ _
section
variable {RS RO U : Nat → Prop} {w : World} {s pages M K : Nat} {T : TS}
/-- How far it has gone back: to m changes. -/
structure BackAt (RS RO U : Nat → Prop) (w wr : World) (s pages M K : Nat) (T : TS) (A : Option Addr) (c m : Nat) : Prop where
  st : ∃ RS' U' V' L', TxIn RS' RO U' wr s pages (M + 2 * (T.cms.length - m)) (K + (T.cms.length - m)) { T with V := V', L := L', cv := .slice A m c, cms := T.cms.take m, undone := T.undone + (T.cms.length - m) } ∧ (fun k => (V' k).d) = unTo T.cs m (fun k => (T.V k).d) ∧ L'.room + (needAll T.cs : Nat) = T.L.room + (needAll (T.cs.take m) : Nat) ∧ L'.n = T.L.n ∧ (∀ b, RS' b → RS b ∨ w.heap.size ≤ b) ∧ (∀ b, U' b → U b ∨ w.heap.size ≤ b)
  fr : Fr (fun b => RS b ∨ U b) w wr
set_option maxHeartbeats 6400000 in
set_option maxRecDepth 100000 in
theorem Back_tx (h : TxIn RS RO U w s pages M K T) (k : Nat) (hk : k ≤ T.cms.length) (hroom : ((needAll T.cs : Nat) : Int) ≤ T.L.room) (hK : K + T.cms.length ≤ 400000) (hM : M + 1000000 ≤ 1000000000000000000) :
    Calls Tryz.prog 51 #[.pointer (some ⟨s, 0, none⟩), .int .i64 k] w fun e w' => e = .returned (.int .i64 0) ∧ ∃ A c, BackAt RS RO U w w' s pages M K T A c k := by
  have qL : ∀ (w : World) (A : Option Addr) (n c : Nat), (Builtin.len_ #[78] 3 #[Value.slice A n c]).run Tryz.prog w = .ok (.int .i64 n) w := fun w A n c => by go_simp
  have qB : ∀ (w : World) (A : Option Addr) (n c : Nat), (Builtin.len_ #[40] 3 #[Value.slice A n c]).run Tryz.prog w = .ok (.int .i64 n) w := fun w A n c => by go_simp
  obtain ⟨A, c, hcv⟩ : ∃ A c, T.cv = .slice A T.cms.length c := by
    rcases h.chg.2 with ⟨e, e2⟩ | ⟨g, cap, cur, e, _⟩
    · exact ⟨none, 0, by rw [e2]; exact e⟩
    · exact ⟨_, _, e⟩
  have h0 : BackAt RS RO U w w s pages M K T A c T.cms.length := ⟨⟨RS, U, T.V, T.L, by
    rw [Nat.sub_self, List.take_of_length_le (Nat.le_refl _), ← hcv]; exact h, by rw [show T.cms.length = T.cs.length from by simp [TS.cs]]; exact (unTo_all _ _).symm, by rw [show T.cms.length = T.cs.length from by simp [TS.cs], List.take_of_length_le (Nat.le_refl _)], rfl, fun b hb => .inl hb, fun b hb => .inl hb⟩, Fr.refl _ _⟩
  have H0 := Lib.hid h0
  have HIn := Lib.hid h
  have hn1 := h.n1
  have HRm := Lib.hid hroom
  obtain ⟨n, hn⟩ : ∃ n, T.cms.length = n := ⟨_, rfl⟩
  have HN := Lib.hid hn
  rw [hn] at hk H0 hK hn1
  clear h h0 hcv hroom hn
  go_enter Tryz.func51, Tryz.ntmps51
  go_wp2_with fail
  go_loopw [7] (fun _ wr => ∃ m, k ≤ m ∧ m ≤ n ∧ Hid (BackAt RS RO U w wr s pages M K T A c m)) (fun _ wr => chgLen (wr.cell? ⟨s, 5, none⟩))
  case atStart => exact ⟨n, hk, Nat.le_refl _, H0⟩
  case round =>
    clear H0
    obtain ⟨m, hkm, hmn, hB⟩ := hrel
    obtain ⟨RS1, U1, V1, L1, h1, hv1, hr1, hl1, hRS1, hU1⟩ := hB.out.st
    have c5 := h1.cell 5
    have z1 := h1.blk.lt
    simp only [TS.cells, List.getElem?_toArray, List.getElem?_cons_zero, List.getElem?_cons_succ] at c5
    have H1 := Lib.hid h1
    have HV1 := Lib.hid hv1
    have HR1 := Lib.hid hr1
    have HL1 := Lib.hid hl1
    have HRS1 := Lib.hid hRS1
    have HU1 := Lib.hid hU1
    clear h1 hv1 hr1 hl1 hRS1 hU1
    rcases Nat.lt_or_ge k m with hlt | hge
    · obtain ⟨q, hq⟩ : ∃ q, m = q + 1 := ⟨m - 1, by omega⟩
      have hqn : q < T.cms.length := by have := HN.out; omega
      obtain ⟨x, hx⟩ : ∃ x, T.cms[q]? = some x := ⟨_, List.getElem?_eq_getElem hqn⟩
      have htk : T.cms.take m = T.cms.take q ++ [x] := by rw [hq, List.take_add_one, hx]; rfl
      have hxm : x ∈ T.cms.take m := by rw [htk]; simp
      obtain ⟨gc, cur, rfl, hcb, hrow, hmc⟩ : ∃ gc cur, A = some ⟨gc, 0, none⟩ ∧ Blk wr gc 93 cur ∧ cur.toList.take (m * 4) = cmCells (T.cms.take m) ∧ m ≤ c := by
        rcases H1.out.chg.2 with ⟨_, e2⟩ | ⟨g, cap, cur, e, _, hh, hcap, _, _, ht⟩
        · have e2 : (T.cms.take m).length = 0 := e2
          rw [List.length_take, HN.out] at e2; omega
        · have e : Value.slice A m c = Value.slice (some ⟨g, 0, none⟩) (T.cms.take m).length cap := e
          injection e with e1 e2 e3
          have ht : cur.toList.take ((T.cms.take m).length * 4) = cmCells (T.cms.take m) := ht
          rw [← e2] at ht
          exact ⟨g, cur, e1, hh, ht, by rw [← e2] at hcap; omega⟩
      have hxr : ∀ (j : Nat) v, [Value.int .u64 x.c.lsn, .int .i64 x.c.no, .int .i64 x.c.at_, .slice (some ⟨x.g, x.o, none⟩) x.c.old.length x.cap][j]? = some v → cur[q * 4 + j]? = some v := fun j v hv => by
        rw [Nat.mul_comm]
        have hj : j < 4 := (List.getElem?_eq_some_iff.1 hv).1
        have h2 := cmCells_get (T.cms.take m) (i := q) (x := x) (by rw [htk, List.getElem?_append_right (by rw [List.length_take]; omega)]; simp [List.length_take, Nat.min_eq_left (Nat.le_of_lt hqn)]) j hj
        rw [← hrow, List.getElem?_take, if_pos (by omega), Array.getElem?_toList] at h2
        rw [h2]
        exact hv
      obtain ⟨⟨xl, xn, xa, xold⟩, xg, xo, xc⟩ := x
      obtain ⟨xln, hxl⟩ : ∃ n, xold.length = n := ⟨_, rfl⟩
      dsimp only at hxr
      rw [hxl] at hxr
      have HXl := Lib.hid hxl
      have HTk := Lib.hid htk
      have HXm := Lib.hid hxm
      have HX := Lib.hid hx
      have HXr := Lib.hid hxr
      have HCb := Lib.hid hcb
      have HRow := Lib.hid hrow
      have HQ := Lib.hid hq
      have hcz := hcb.lt
      have e1 : IntKind.i64.wrap ((m : Int) - 1) = (q : Int) := by rw [IntKind.wrap_i64]; omega
      have hqm : q < m := by omega
      have hq1 : (q : Int) < (m : Int) := by omega
      have E1 := Lib.hid e1
      clear hxl htk hxm hx hxr hcb hrow hq e1
      go_wp2_with fail
      have hS : Fr Nob wr wr.drew := (Fr.refl _ wr).drew
      refine Rg.begin (Fr Nob wr) [] (by kernel_rfl) ?_
      refine Rg.op 0 (some 14) hS (v := ?v0r) (hy := fun wz hwz => ?h0r) (h := ?_)
      case h0r => (go_simp; try with_reducible rfl)
      refine Rg.op 1 (some 15) hS (v := ?v1r) (hy := fun wz hwz => ?h1r) (h := ?_)
      case h1r => (have hpp := Nat.lt_of_lt_of_le z1 hwz.size; go_simp; try with_reducible rfl)
      refine Rg.op 2 (some 16) hS (v := ?v2r) (hy := fun wz hwz => ?h2r) (h := ?_)
      case h2r => (have hpp := Nat.lt_of_lt_of_le z1 hwz.size; go_simp; try with_reducible rfl)
      refine Rg.op 3 (some 17) hS (v := (.slice (some ⟨gc, 0, none⟩) m c)) (hy := fun wz hwz => ?h3r) (h := ?_)
      case h3r => (have cx := (hwz.cell (p := ⟨s, 5, none⟩) z1 (fun h => h)).trans c5; have hpp := Nat.lt_of_lt_of_le z1 hwz.size; go_simp; try with_reducible rfl)
      refine Rg.op 4 (some 18) hS (v := ?v4r) (hy := fun wz hwz => ?h4r) (h := ?_)
      case h4r => (go_simp; try with_reducible rfl)
      refine Rg.op 5 (some 19) hS (v := ?v5r) (hy := fun wz hwz => ?h5r) (h := ?_)
      case h5r => (have hpp := Nat.lt_of_lt_of_le z1 hwz.size; go_simp; try with_reducible rfl)
      refine Rg.op 6 (some 20) hS (v := ?v6r) (hy := fun wz hwz => ?h6r) (h := ?_)
      case h6r => (have hpp := Nat.lt_of_lt_of_le z1 hwz.size; go_simp; try with_reducible rfl)
      refine Rg.op 7 (some 21) hS (v := (.slice (some ⟨gc, 0, none⟩) m c)) (hy := fun wz hwz => ?h7r) (h := ?_)
      case h7r => (have cx := (hwz.cell (p := ⟨s, 5, none⟩) z1 (fun h => h)).trans c5; have hpp := Nat.lt_of_lt_of_le z1 hwz.size; go_simp; try with_reducible rfl)
      refine Rg.op 8 (some 22) hS (v := (.int .i64 m)) (hy := fun wz hwz => ?h8r) (h := ?_)
      case h8r => (go_simp; try with_reducible rfl)
      refine Rg.op 9 (some 23) hS (v := (.int .i64 q)) (hy := fun wz hwz => ?h9r) (h := ?_)
      case h9r => (have e1 := E1.out; go_simp; try with_reducible rfl)
      refine Rg.op 10 (some 24) hS (v := ?v10r) (hy := fun wz hwz => ?h10r) (h := ?_)
      case h10r => (go_simp; try with_reducible rfl)
      refine Rg.op 11 (some 25) hS (v := (.agg #[.int .u64 xl, .int .i64 xn, .int .i64 xa, .slice (some ⟨xg, xo, none⟩) xln xc])) (hy := fun wz hwz => ?h11r) (h := ?_)
      case h11r => (exact op_load_mid _ _ rfl gc (q * 4) rfl [.int .u64 xl, .int .i64 xn, .int .i64 xa, .slice (some ⟨xg, xo, none⟩) xln xc] _ (rangeAt_of (HCb.out.fr hwz (fun h => h)) _ HXr.out) Tryz.underlying93 rfl change_size)
      have hSa : Fr Nob wr ((wr.alloc (.cells #[.int .u64 0, .int .i64 0, .int .i64 0, .slice none 0 0] 93)).drew) := ((Fr.refl _ wr).alloc _).drew
      refine Rg.run 12 (some 5) (v := ?v12r) (w' := (((wr.alloc (.cells #[.int .u64 0, .int .i64 0, .int .i64 0, .slice none 0 0] 93)).drew))) (hrun := ?h12r) (hS := (fun _ => hSa)) (h := ?_)
      case h12r => (go_simp; try with_reducible rfl)
      have hSb : Fr Nob wr ((wr.alloc (.cells #[.int .u64 xl, .int .i64 xn, .int .i64 xa, .slice (some ⟨xg, xo, none⟩) xln xc] 93)).drew) := ((Fr.refl _ wr).alloc _).drew
      refine Rg.store 13 (w' := (((wr.alloc (.cells #[.int .u64 xl, .int .i64 xn, .int .i64 xa, .slice (some ⟨xg, xo, none⟩) xln xc] 93)).drew))) (hrun := ?h13r) (hS := (fun _ => hSb)) (h := ?_)
      case h13r => (go_simp; try with_reducible rfl)
      refine Rg.done _ (h := ?_)
      have h2 := H1.out.new hSb
      have hb2 : Blk ((wr.alloc (.cells #[.int .u64 xl, .int .i64 xn, .int .i64 xa, .slice (some ⟨xg, xo, none⟩) xln xc] 93)).drew) wr.heap.size 93 #[.int .u64 xl, .int .i64 xn, .int .i64 xa, .slice (some ⟨xg, xo, none⟩) xln xc] := (Blk.new wr _ _).drew
      obtain ⟨gx, hgx⟩ : ∃ g, wr.heap.size = g := ⟨_, rfl⟩
      have hbz2 : ((wr.alloc (.cells #[.int .u64 xl, .int .i64 xn, .int .i64 xa, .slice (some ⟨xg, xo, none⟩) xln xc] 93)).drew).heap.size = wr.heap.size + 1 := by simp
      rw [hgx] at hb2 ⊢
      obtain ⟨w2, hw2⟩ : ∃ W, ((wr.alloc (.cells #[.int .u64 xl, .int .i64 xn, .int .i64 xa, .slice (some ⟨xg, xo, none⟩) xln xc] 93)).drew) = W := ⟨_, rfl⟩
      rw [hw2] at h2 hb2 hSb hbz2 ⊢
      have hnt : needAll ((T.cms.take m).map (·.c)) = needAll ((T.cms.take q).map (·.c)) + (16 + (undB xn xa xold 0).length) := by
        rw [HTk.out, List.map_append, List.map_singleton, needAll_snoc]; rfl
      have hcsm : ∀ m, T.cs.take m = (T.cms.take m).map (·.c) := fun m => by unfold TS.cs; rw [List.map_take]
      have hul := undB_len xn xa xold xl 0
      obtain ⟨nm, hnm⟩ : ∃ v, needAll ((T.cms.take m).map (·.c)) = v := ⟨_, rfl⟩
      obtain ⟨nq, hnq⟩ : ∃ v, needAll ((T.cms.take q).map (·.c)) = v := ⟨_, rfl⟩
      obtain ⟨r0, hr0⟩ : ∃ r, undB xn xa xold 0 = r := ⟨_, rfl⟩
      rw [hnm, hnq, hr0] at hnt
      rw [hr0] at hul
      have hr1 := HR1.out
      rw [hcsm, hnm] at hr1
      have hrm := HRm.out
      have hpgs := h2.pool.pg
      have hgood := (h2.old _ HXm.out).2.2
      have hr0l : r0.length ≤ 2000 := by rw [← hr0]; have := hgood.no; have := hgood.fit; exact undB_big (by dsimp only at *; omega) (by dsimp only at *; omega) (by dsimp only at *; omega)
      have hnmb : nm ≤ 2000000 := by
        have h5 := h2.pool.nx.2.2.1
        have h5 : L1.room ≤ 2000000 := h5
        omega
      have hund := Undo_any h2 ⟨⟨xl, xn, xa, xold⟩, xg, xo, xc⟩ (h2.old _ HXm.out) (by show ((undB xn xa xold xl).length : Int) + 16 ≤ L1.room; omega) (by have := HN.out; omega) (by have := HN.out; omega)
      dsimp only at hund
      rw [HXl.out] at hund
      have HUnd := Lib.hid hund
      have H2 := Lib.hid h2
      have HB2 := Lib.hid hb2
      have HGood := Lib.hid hgood
      have HNm := Lib.hid hnm
      have HNq := Lib.hid hnq
      have HR0 := Lib.hid hr0
      have HNt := Lib.hid hnt
      have HRr := Lib.hid hr1
      have HSb := Lib.hid hSb
      have HGx := Lib.hid hgx
      have x0 := hb2.cell 0
      have x1 := hb2.cell 1
      have x2 := hb2.cell 2
      have x3 := hb2.cell 3
      have zx := hb2.lt
      simp only [List.getElem?_toArray, List.getElem?_cons_zero, List.getElem?_cons_succ] at x0 x1 x2 x3
      clear hund h2 hb2 hgood hnm hnq hr0 hnt hr1 hrm hul hcsm hSb hgx c5 hS hSa hw2
      go_wp2_with fail
      refine HUnd.out.mono ?_
      rintro e w3 ⟨rfl, RS2, U2, h3, hRS2, hU2, hf3⟩
      have hb3 := HB2.out.fr hf3 (fun e => by
        rcases e with e | e
        · have := H1.out.lts gx e; have := HGx.out; omega
        · have := H1.out.ltu gx e; have := HGx.out; omega)
      have HB3 := Lib.hid hb3
      have H3 := Lib.hid h3
      have HF3 := Lib.hid hf3
      have HRS2 := Lib.hid hRS2
      have HU2 := Lib.hid hU2
      have c5 := h3.cell 5
      have z3 := h3.blk.lt
      have f5 := h3.blk.frozen 5
      simp only [TS.cells, List.getElem?_toArray, List.getElem?_cons_zero, List.getElem?_cons_succ] at c5
      clear hb3 h3 hf3 hRS2 hU2 x0 x1 x2 x3 zx HUnd
      go_wp2_with fail
      have hS : Fr Nob w3 w3.drew := (Fr.refl _ w3).drew
      have hqc : q ≤ c := by omega
      refine Rg.begin (Fr Nob w3) [14] (by kernel_rfl) ?_
      refine Rg.op 0 (some 32) hS (v := ?v0s) (hy := fun wz hwz => ?h0s) (h := ?_)
      case h0s => (go_simp; try with_reducible rfl)
      refine Rg.op 1 (some 33) hS (v := ?v1s) (hy := fun wz hwz => ?h1s) (h := ?_)
      case h1s => (go_simp; try with_reducible rfl)
      refine Rg.op 2 (some 34) hS (v := ?v2s) (hy := fun wz hwz => ?h2s) (h := ?_)
      case h2s => (have hpp := Nat.lt_of_lt_of_le z3 hwz.size; go_simp; try with_reducible rfl)
      refine Rg.op 3 (some 35) hS (v := ?v3s) (hy := fun wz hwz => ?h3s) (h := ?_)
      case h3s => (have hpp := Nat.lt_of_lt_of_le z3 hwz.size; go_simp; try with_reducible rfl)
      refine Rg.op 4 (some 36) hS (v := (.slice (some ⟨gc, 0, none⟩) m c)) (hy := fun wz hwz => ?h4s) (h := ?_)
      case h4s => (have cx := (hwz.cell (p := ⟨s, 5, none⟩) z3 (fun h => h)).trans c5; have hpp := Nat.lt_of_lt_of_le z3 hwz.size; go_simp; try with_reducible rfl)
      refine Rg.op 5 (some 37) hS (v := ?v5s) (hy := fun wz hwz => ?h5s) (h := ?_)
      case h5s => (go_simp; try with_reducible rfl)
      refine Rg.op 6 (some 38) hS (v := ?v6s) (hy := fun wz hwz => ?h6s) (h := ?_)
      case h6s => (have hpp := Nat.lt_of_lt_of_le z3 hwz.size; go_simp; try with_reducible rfl)
      refine Rg.op 7 (some 39) hS (v := ?v7s) (hy := fun wz hwz => ?h7s) (h := ?_)
      case h7s => (have hpp := Nat.lt_of_lt_of_le z3 hwz.size; go_simp; try with_reducible rfl)
      refine Rg.op 8 (some 40) hS (v := (.slice (some ⟨gc, 0, none⟩) m c)) (hy := fun wz hwz => ?h8s) (h := ?_)
      case h8s => (have cx := (hwz.cell (p := ⟨s, 5, none⟩) z3 (fun h => h)).trans c5; have hpp := Nat.lt_of_lt_of_le z3 hwz.size; go_simp; try with_reducible rfl)
      refine Rg.op 9 (some 41) hS (v := (.int .i64 m)) (hy := fun wz hwz => ?h9s) (h := ?_)
      case h9s => (go_simp; try with_reducible rfl)
      refine Rg.op 10 (some 42) hS (v := (.int .i64 q)) (hy := fun wz hwz => ?h10s) (h := ?_)
      case h10s => (have e1 := E1.out; go_simp; try with_reducible rfl)
      refine Rg.op 11 (some 43) hS (v := (.slice (some ⟨gc, 0, none⟩) q c)) (hy := fun wz hwz => ?h11s) (h := ?_)
      case h11s => (have hqc' := hqc; go_simp; try with_reducible rfl)
      refine Rg.op 12 (some 44) hS (v := ?v12s) (hy := fun wz hwz => ?h12s) (h := ?_)
      case h12s => (have hpp := Nat.lt_of_lt_of_le z3 hwz.size; go_simp; try with_reducible rfl)
      refine Rg.op 13 (some 45) hS (v := ?v13s) (hy := fun wz hwz => ?h13s) (h := ?_)
      case h13s => (have hpp := Nat.lt_of_lt_of_le z3 hwz.size; go_simp; try with_reducible rfl)
      refine Rg.store 14 (w' := (((w3.setCell ⟨s, 5, none⟩ (.slice (some ⟨gc, 0, none⟩) q c)).drew))) (hrun := ?h14s) (hS := (fun h => absurd (by decide) h)) (h := ?_)
      case h14s => (have hpp := z3; have cc := c5; have ff := f5; go_simp; try with_reducible rfl)
      refine Rg.done _ (h := ?_)
      have hf34 : Fr (fun k => k = s) w3 ((w3.setCell ⟨s, 5, none⟩ (.slice (some ⟨gc, 0, none⟩) q c)).drew) := ((Fr.refl (fun k => k = s) w3).setCell (p := ⟨s, 5, none⟩) (.inr rfl) _).drew
      have hb4 : Blk ((w3.setCell ⟨s, 5, none⟩ (.slice (some ⟨gc, 0, none⟩) q c)).drew) s 81 _ := (H3.out.blk.set_ 5 (.slice (some ⟨gc, 0, none⟩) q c)).drew
      have hgxs : gx ≠ s := by have := H1.out.blk.lt; have := HGx.out; omega
      have hbx4 := HB3.out.fr hf34 hgxs
      have hold3 := (H3.out.old _ HXm.out)
      have hbo4 := hold3.2.1.fr hf34 (fun a ha e => by
        injection ha with ha
        subst ha
        have e : xg = s := e
        exact (H3.out.ap s H3.out.rs).1 (e ▸ hold3.1))
      obtain ⟨w4, hw4⟩ : ∃ W, ((w3.setCell ⟨s, 5, none⟩ (.slice (some ⟨gc, 0, none⟩) q c)).drew) = W := ⟨_, rfl⟩
      rw [hw4] at hf34 hb4 hbx4 hbo4 ⊢
      have HF34 := Lib.hid hf34
      have HB4 := Lib.hid hb4
      have HBx4 := Lib.hid hbx4
      have HBo4 := Lib.hid hbo4
      have d8 := hb4.cell 8
      have g8 := hb4.frozen 8
      have z4 := hb4.lt
      have y1 := hbx4.cell 1
      have y2 := hbx4.cell 2
      have y3 := hbx4.cell 3
      have zy := hbx4.lt
      simp only [TS.cells, TS.cs, List.getElem?_toArray, List.getElem?_cons_zero, List.getElem?_cons_succ, List.setIfInBounds_toArray, List.set_cons_zero, List.set_cons_succ] at d8 y1 y2 y3
      rw [HNm.out] at d8
      have hgno := HGood.out.no
      have hgfit := HGood.out.fit
      have hgcap := HGood.out.cap
      have hgcap1 := HGood.out.cap1
      have hxl' := HXl.out
      dsimp only at hgno hgfit hgcap hgcap1
      rw [hxl'] at hgfit hgcap
      clear hf34 hb4 hbx4 hbo4 hold3 c5 f5 z3 hS hw4 hxl'
      go_wp2_with fail
      have hS : Fr Nob w4 w4.drew := (Fr.refl _ w4).drew
      have ea : IntKind.i64.wrap (16 + (r0.length : Int)) = 16 + (r0.length : Int) := by rw [IntKind.wrap_i64]; omega
      have eb : IntKind.i64.wrap ((nm : Int) - (16 + (r0.length : Int))) = (nq : Int) := by rw [IntKind.wrap_i64]; have := HNt.out; omega
      have EA := Lib.hid ea
      have EB := Lib.hid eb
      clear ea eb
      refine Rg.begin' (Fr Nob w4) [16] (by kernel_rfl) ?_
      refine Rg.op 0 (some 46) hS (v := ?v0t) (hy := fun wz hwz => ?h0t) (h := ?_)
      case h0t => (go_simp; try with_reducible rfl)
      refine Rg.op 1 (some 47) hS (v := ?v1t) (hy := fun wz hwz => ?h1t) (h := ?_)
      case h1t => (have hpp := Nat.lt_of_lt_of_le z4 hwz.size; go_simp; try with_reducible rfl)
      refine Rg.op 2 (some 48) hS (v := ?v2t) (hy := fun wz hwz => ?h2t) (h := ?_)
      case h2t => (have hpp := Nat.lt_of_lt_of_le z4 hwz.size; go_simp; try with_reducible rfl)
      refine Rg.op 3 (some 49) hS (v := (.int .i64 nm)) (hy := fun wz hwz => ?h3t) (h := ?_)
      case h3t => (have cx := (hwz.cell (p := ⟨s, 8, none⟩) z4 (fun h => h)).trans d8; have hpp := Nat.lt_of_lt_of_le z4 hwz.size; go_simp; try with_reducible rfl)
      refine Rg.op 4 (some 50) hS (v := ?v4t) (hy := fun wz hwz => ?h4t) (h := ?_)
      case h4t => (have hpp := Nat.lt_of_lt_of_le zy hwz.size; go_simp; try with_reducible rfl)
      refine Rg.op 5 (some 51) hS (v := (.int .i64 xn)) (hy := fun wz hwz => ?h5t) (h := ?_)
      case h5t => (have cx := (hwz.cell (p := ⟨gx, 1, none⟩) zy (fun h => h)).trans y1; have hpp := Nat.lt_of_lt_of_le zy hwz.size; go_simp; try with_reducible rfl)
      refine Rg.op 6 (some 52) hS (v := ?v6t) (hy := fun wz hwz => ?h6t) (h := ?_)
      case h6t => (have hpp := Nat.lt_of_lt_of_le zy hwz.size; go_simp; try with_reducible rfl)
      refine Rg.op 7 (some 53) hS (v := (.int .i64 xa)) (hy := fun wz hwz => ?h7t) (h := ?_)
      case h7t => (have cx := (hwz.cell (p := ⟨gx, 2, none⟩) zy (fun h => h)).trans y2; have hpp := Nat.lt_of_lt_of_le zy hwz.size; go_simp; try with_reducible rfl)
      refine Rg.op 8 (some 54) hS (v := ?v8t) (hy := fun wz hwz => ?h8t) (h := ?_)
      case h8t => (have hpp := Nat.lt_of_lt_of_le zy hwz.size; go_simp; try with_reducible rfl)
      refine Rg.op 9 (some 55) hS (v := (.slice (some ⟨xg, xo, none⟩) xln xc)) (hy := fun wz hwz => ?h9t) (h := ?_)
      case h9t => (have cx := (hwz.cell (p := ⟨gx, 3, none⟩) zy (fun h => h)).trans y3; have hpp := Nat.lt_of_lt_of_le zy hwz.size; go_simp; try with_reducible rfl)
      have hrc := UndoR_any xn xa 0 xg xo xc xln xold _ (HBo4.out.new hS) (by omega) (by omega) (by omega) HXl.out hgcap hgcap1 (by omega)
      rw [HR0.out] at hrc
      have HRec := Lib.hid hrc
      clear hrc
      refine Rg.call 10 (some 56) (hrun := ?h10t) (hcall := HRec.out) (h := ?_)
      case h10t => (go_simp)
      rintro e w5 ⟨gr, cr, rfl, _, _, _, hfr⟩
      have hS5 : Fr Nob w4 w5 := hS.trans hfr
      clear hfr HRec
      refine ⟨_, ?a10t, rfl, ?b10t, (fun _ => hS5), ?_⟩
      case b10t => (simp only [Act.put, List.setIfInBounds_toArray, List.set_cons_zero, List.set_cons_succ]; rfl)
      refine Rg.op 11 (some 57) hS5 (v := ?v11t) (hy := fun wz hwz => ?h11t) (h := ?_)
      case h11t => (go_simp; try with_reducible rfl)
      refine Rg.op 12 (some 58) hS5 (v := (.int .i64 (16 + (r0.length : Int)))) (hy := fun wz hwz => ?h12t) (h := ?_)
      case h12t => (have ea := EA.out; go_simp; try with_reducible rfl)
      refine Rg.op 13 (some 59) hS5 (v := (.int .i64 nq)) (hy := fun wz hwz => ?h13t) (h := ?_)
      case h13t => (have eb := EB.out; go_simp; try with_reducible rfl)
      refine Rg.op 14 (some 60) hS5 (v := ?v14t) (hy := fun wz hwz => ?h14t) (h := ?_)
      case h14t => (have hpp := Nat.lt_of_lt_of_le z4 hwz.size; go_simp; try with_reducible rfl)
      refine Rg.op 15 (some 61) hS5 (v := ?v15t) (hy := fun wz hwz => ?h15t) (h := ?_)
      case h15t => (have hpp := Nat.lt_of_lt_of_le z4 hwz.size; go_simp; try with_reducible rfl)
      have d8' := (hS5.cell (p := ⟨s, 8, none⟩) z4 (fun h => h)).trans d8
      have g8' := (hS5.frozen (p := ⟨s, 8, none⟩) z4 (fun h => h)).trans g8
      have z5 := Nat.lt_of_lt_of_le z4 hS5.size
      refine Rg.store 16 (w' := (((w5.setCell ⟨s, 8, none⟩ (.int .i64 nq))))) (hrun := ?h16t) (hS := (fun h => absurd (by decide) h)) (h := ?_)
      case h16t => (go_simp; try with_reducible rfl)
      refine Rg.done _ (h := ?_)
      have hf56 : Fr (fun k => k = s) w5 ((w5.setCell ⟨s, 8, none⟩ (.int .i64 nq))) := (Fr.refl (fun k => k = s) w5).setCell (p := ⟨s, 8, none⟩) (.inr rfl) _
      have hf36 := (HF34.out.trans (hS5.mono (fun _ _ h => h.elim))).trans hf56
      have hb6 := (HB4.out.fr hS5 (fun h => h)).set_ 8 (.int .i64 nq)
      obtain ⟨w6, hw6⟩ : ∃ W, ((w5.setCell ⟨s, 8, none⟩ (.int .i64 nq))) = W := ⟨_, rfl⟩
      rw [hw6] at hf36 hb6 ⊢
      have htq : (T.cms.take m).take q = T.cms.take q := by rw [List.take_take, Nat.min_eq_left (Nat.le_of_lt hqm)]
      have hlm : (T.cms.take m).length = m := by rw [List.length_take, HN.out]; omega
      have hlq : (T.cms.take q).length = q := by rw [List.length_take, HN.out]; omega
      have hlk : T.cms.length - q = (T.cms.length - m) + 1 := by have := HQ.out; rw [HN.out]; omega
      have hchgq : w3.ownsRow 0 93 4 (.slice (some ⟨gc, 0, none⟩) q c) (T.cms.take q).length (cmCells (T.cms.take q)) := by
        have h5 : w3.ownsRow 0 93 4 (.slice (some ⟨gc, 0, none⟩) m c) (T.cms.take m).length (cmCells (T.cms.take m)) := H3.out.chg
        rw [hlm] at h5
        have h6 := own_take h5 q (Nat.le_of_lt hqm)
        rw [cmCells_take, htq] at h6
        rw [hlq]; exact h6
      have hsv3 : ∀ g', T.sv.ownBlock = some g' → ¬ g' = s := fun g' hg' e => by
        obtain ⟨cs1, hb1⟩ := own_blk H3.out.sav hg'
        subst e
        exact Blk.ne_ (t := 97) (t' := 81) hb1 H3.out.blk (by decide) rfl
      have hcv3 : ∀ g', (Value.slice (some ⟨gc, 0, none⟩) q c).ownBlock = some g' → ¬ g' = s := fun g' hg' e => by
        obtain ⟨cs1, hb1⟩ := own_blk hchgq hg'
        subst e
        exact Blk.ne_ (t := 93) (t' := 81) hb1 H3.out.blk (by decide) rfl
      have hn1' := H3.out.n1
      have h6 := H3.out.turn hf36 (fun b _ e => (show b = s from e) ▸ H3.out.rs) T.busy (.slice (some ⟨gc, 0, none⟩) q c) T.sv (T.cms.take q) T.ss T.last (T.undone + (T.cms.length - m) + 1)
        (by
          simp only [TS.cells, TS.cs, List.setIfInBounds_toArray, List.set_cons_zero, List.set_cons_succ] at hb6 ⊢
          rw [HNq.out]
          exact hb6)
        (own_fr hchgq hf36 hcv3) (own_fr H3.out.sav hf36 hsv3) (fun g' hg' => .inl (H3.out.rc g' hg')) (fun g' hg' => .inl (H3.out.rv g' hg'))
        (fun x hx => .inl (by rw [← htq] at hx; exact List.mem_of_mem_take hx)) (by have : (T.cms.take m).length ≤ K + (T.cms.length - m) + 1 := hn1'; rw [hlm] at this; rw [hlq]; exact Nat.le_trans (Nat.le_of_lt hqm) this) H3.out.n2 H3.out.n3 H3.out.n4
      have hB' : BackAt RS RO U w w6 s pages M K T (some ⟨gc, 0, none⟩) c q := by
        refine ⟨⟨fun b => RS2 b ∨ (Value.slice (some ⟨gc, 0, none⟩) q c).ownBlock = some b ∨ T.sv.ownBlock = some b, U2, laidV V1 xn L1.next xa xold, L1.add (undB xn xa xold xl), ?_, ?_, ?_, HL1.out, fun b hb => ?_, fun b hb => ?_⟩, ?_⟩
        · rw [hlk]
          exact h6
        · have e2 : (fun k => (laidV V1 xn L1.next xa xold k).d) = und1 (fun k => (V1 k).d) ⟨xl, xn, xa, xold⟩ := by
            funext k
            unfold laidV und1 layP
            dsimp only
            split <;> rfl
          rw [e2, HV1.out]
          have e3 := unTo_take T.cs m q (Nat.le_of_lt hqm) (by show m ≤ (T.cms.map (·.c)).length; rw [List.length_map, HN.out]; exact hmn) (fun k => (T.V k).d)
          have e4 : T.cs.take m = T.cs.take q ++ [⟨xl, xn, xa, xold⟩] := by
            unfold TS.cs
            rw [← List.map_take, HTk.out, List.map_append, List.map_take]; rfl
          have e5 : (T.cs.take q).length = q := by
            unfold TS.cs
            rw [← List.map_take, List.length_map, hlq]
          have e6 := unTo_step (T.cs.take q) ⟨xl, xn, xa, xold⟩ (unTo T.cs m fun k => (T.V k).d)
          rw [e5, ← e4] at e6
          rw [← e3, e6]
        · have e7 : T.cs.take q = (T.cms.take q).map (·.c) := by unfold TS.cs; rw [List.map_take]
          rw [e7, HNq.out]
          have e8 := HRr.out
          have e9 := HNt.out
          have e10 := undB_len xn xa xold xl 0
          rw [HR0.out] at e10
          show L1.room - (16 + (undB xn xa xold xl).length) + ((needAll T.cs : Nat) : Int) = T.L.room + (nq : Int)
          omega
        · rcases hb with hb | hb | hb
          · rcases HRS2.out b hb with e | e
            · exact HRS1.out b e
            · have := HSb.out.size; have := hB.out.fr.size; exact .inr (by omega)
          · exact HRS1.out b (H1.out.rc b hb)
          · exact HRS1.out b (H1.out.rv b hb)
        · rcases HU2.out b hb with e | e
          · exact HU1.out b e
          · have := HSb.out.size; have := hB.out.fr.size; exact .inr (by omega)
        · refine ((hB.out.fr.trans (HSb.out.mono (fun _ _ h => h.elim))).step HF3.out (fun i hi e => ?_)).step hf36 (fun i hi e => ?_)
          · rcases e with e | e
            · rcases HRS1.out i e with e | e
              · exact .inl e
              · omega
            · rcases HU1.out i e with e | e
              · exact .inr e
              · omega
          · have e : i = s := e
            exact .inl (e ▸ HIn.out.rs)
      have hm6 := hB'
      have c56 := h6.cell 5
      simp only [TS.cells, List.getElem?_toArray, List.getElem?_cons_zero, List.getElem?_cons_succ] at c56
      have c5r := H1.out.cell 5
      simp only [TS.cells, List.getElem?_toArray, List.getElem?_cons_zero, List.getElem?_cons_succ] at c5r
      have HB6 := Lib.hid hB'
      have HC56 := Lib.hid c56
      have HC5r := Lib.hid c5r
      clear hB' hm6 c56 c5r h6 hchgq hsv3 hcv3
      go_wp2
      go_roundw
      case rel => exact ⟨q, by have := HQ.out; omega, by have := HQ.out; omega, HB6⟩
      case measure => rw [HC56.out, HC5r.out]; exact hqm
    · obtain rfl : m = k := by omega
      go_wp2
      go_ret
      exact ⟨rfl, A, c, hB.out⟩
end
end Go.Proofs.YtfapklpcgcgahaaGreatDoor
