/-
  Cut: all records below a number are gone (the disk lives; at least one record is left).
-/
import Derived.Test.YtieiopeblleheaaWalFlush
import Derived.Test.YtieiopeblleheaaWalAwake
namespace Go.Proofs.Ytieiopeblleheaa
set_option linter.unusedSimpArgs false
set_option linter.unusedVariables false
open Go.RowKit

/-- A log with its disk, in memory that is new since w0. -/
def WSt (w0 : World) (p d : Nat) (L : LS) (S : DS) (wr : World) : Prop :=
  ∃ R RD, WalIn wr p d L S R RD ∧ (∀ b, R b → w0.heap.size ≤ b) ∧ (∀ b, RD b → w0.heap.size ≤ b) ∧ New w0 wr
theorem WSt.new {w0 : World} {p d : Nat} {L : LS} {S : DS} {wr wz : World} (h : WSt w0 p d L S wr) (hf : Fr Nob wr wz) : WSt w0 p d L S wz := by
  obtain ⟨R, RD, hA, h1, h2, h3⟩ := h
  exact ⟨R, RD, { hA with l := hA.l.new hf, d := hA.d.new hf }, h1, h2, h3.new hf⟩
/-- A log behind a Cut of k records. -/
def LS.cut (L : LS) (k : Nat) : LS := { L with l := L.l.drop k, first := L.first + k, turn := L.turn + 1, room := L.room + (sizes (L.rs.take k) : Int) }
theorem recCells_drop (rv : List (Value × Nat)) : ∀ k, recCells (rv.drop k) = (recCells rv).drop (k * 2)
  | 0 => by simp
  | k + 1 => by
    cases rv with
    | nil => simp [recCells]
    | cons x rv =>
      rw [List.drop_succ_cons, recCells_drop rv k, show (k + 1) * 2 = k * 2 + 1 + 1 from by omega]
      simp [recCells]
theorem LogAt.cut {R : Nat → Prop} {w W : World} {p d g o c : Nat} {rv : List (Value × Nat)} {L : LS} (h : LogAt R w p d (.slice (some ⟨g, o, none⟩) L.l.length c) rv L) (k : Nat) (hk : k < L.l.length) (hf : L.first + k < 18446744073709551616) (ht : L.turn + 1 < 18446744073709551616)
    (hW : W = (((w.setCell ⟨p, 10, none⟩ (.int .u64 ((L.turn + 1 : Nat) : Int))).setCell ⟨p, 6, none⟩ (.slice (some ⟨g, o + k * 2, none⟩) (L.l.length - k) (c - k))).setCell ⟨p, 3, none⟩ (.int .u64 ((L.first + k : Nat) : Int)))) :
    LogAt R W p d (.slice (some ⟨g, o + k * 2, none⟩) (L.l.length - k) (c - k)) (rv.drop k) { L with l := L.l.drop k, first := L.first + k, turn := L.turn + 1 } ∧ Fr (fun b => b = p) w W := by
  have fW : Fr (fun b => b = p) w W := by
    rw [hW]
    exact (((Fr.refl (fun b => b = p) w).setCell (p := ⟨p, 10, none⟩) (.inr rfl) _).setCell (p := ⟨p, 6, none⟩) (.inr rfl) _).setCell (p := ⟨p, 3, none⟩) (.inr rfl) _
  have hb := ((h.blk.set_ 10 (.int .u64 ((L.turn + 1 : Nat) : Int))).set_ 6 (.slice (some ⟨g, o + k * 2, none⟩) (L.l.length - k) (c - k))).set_ 3 (.int .u64 ((L.first + k : Nat) : Int))
  rw [← hW] at hb
  have hl : (L.l.drop k).length = L.l.length - k := List.length_drop
  refine ⟨?_, fW⟩
  exact {
    blk := hb
    own := by
      show OwnF W 99 2 _ (L.l.drop k).length _
      rw [hl, recCells_drop]
      exact (h.own.cut k (by omega)).fr fW (fun g' hg he => by subst he; exact Blk.ownF_ne h.blk h.own (by decide) (by rw [← hg]; rfl))
    recs := by
      refine ⟨by rw [List.length_drop, h.recs.1]; exact hl.symm, fun i x y hx hy => ?_⟩
      have hy : (L.l.drop k)[i]? = some y := hy
      rw [List.getElem?_drop] at hx hy
      obtain ⟨e1, e2, e3⟩ := h.recs.2 _ x y hx hy
      exact ⟨e1, e2, e3.far fW (fun b hb _ => by subst hb; exact ⟨_, _, h.blk, by decide⟩)⟩
    nn := fun x hx => h.nn x (List.mem_of_mem_drop hx)
    rp := h.rp
    rl := fun x hx => h.rl x (by rw [← hx]; rfl)
    lt := fun b hb => Nat.lt_of_lt_of_le (h.lt b hb) fW.size
    n0 := h.n0
    n1 := h.n1
    s1 := h.s1
    b1 := hf
    b2 := h.b2
    b3 := h.b3
    b4 := h.b4
    b5 := h.b5
    b6 := h.b6
    b7 := ht }

theorem sizes_take_succ (L : LS) (i : Nat) (h : i < L.l.length) : sizes (L.rs.take (i + 1)) = sizes (L.rs.take i) + (16 + L.l[i].1.length) := by
  rw [List.take_add_one, List.getElem?_eq_getElem (by rw [LS.rs_length]; exact h), sizes_append]
  have e : (L.rs[i]'(by rw [LS.rs_length]; exact h)) = L.l[i].1 := by simp [LS.rs]
  rw [e]
  simp [sizes]

set_option maxHeartbeats 3200000 in
set_option maxRecDepth 100000 in
theorem Cut_some {w w0 : World} {p d nx : Nat} {L : LS} {S : DS} (k : Nat) (hnx : w.cell? ⟨p, 4, none⟩ = some (.int .u64 nx)) (hm : L.first + k ≤ nx)
    (hF : Calls Try.prog 40 #[.pointer (some ⟨p, 0, none⟩)] w fun e w1 => e = .returned (.int .i64 0) ∧ WSt w0 p d L S w1)
    (hk0 : 0 < k) (hk : k < L.l.length) (hll : L.l.length < 4000000) (hsm : ∀ x ∈ L.l, x.1.length ≤ 2000) (hturn : L.turn + 1 < 18446744073709551616) (hr0 : -4611686018427387904 ≤ L.room) (hr1 : L.room ≤ 4611686018427387904)
    (hfirst : L.first + k < 18446744073709551616) (hd1 : S.dead = false) (hd2 : (S.wr (L.start + (L.turn + 1) % 2) (begB (L.turn + 1) (L.first + k) L.l[k].2)).dead = false) (hwl : S.waits.length + 1 < 4000000000) :
    Calls Try.prog 42 #[.pointer (some ⟨p, 0, none⟩), .int .u64 ((L.first + k : Nat) : Int)] w fun e w' => e = .returned (.int .i64 0) ∧ WSt w0 p d (L.cut k) (S.wr (L.start + (L.turn + 1) % 2) (begB (L.turn + 1) (L.first + k) L.l[k].2)).flushed w' := by
  have HF := Lib.hid hF
  have HSm := Lib.hid hsm
  have HD1 := Lib.hid hd1
  have HD2 := Lib.hid hd2
  have hpw := cell_lt hnx
  obtain ⟨m, hmm⟩ : ∃ m, L.first + k = m := ⟨_, rfl⟩
  have HM := Lib.hid hmm
  have hmk : (m : Int) - (L.first : Int) = (k : Int) := by omega
  have hml : L.first < m := by omega
  rw [hmm] at hm hfirst HD2 ⊢
  clear hF hsm hd1 hd2 hmm
  go_enter Try.func42, Try.ntmps42
  go_wp2_with fail
  refine HF.out.mono ?_
  rintro e w1 ⟨rfl, R, RD, hW, hR, hRD, hN⟩
  have hap : ¬ RD p := by
    obtain ⟨lv, rv, hL⟩ := hW.l
    exact hW.apart p hL.rp
  have HW := Lib.hid hW
  have HN := Lib.hid hN
  have HRb := Lib.hid hR
  have HRDb := Lib.hid hRD
  obtain ⟨lv, rv, hL⟩ := hW.l
  obtain ⟨g, o, c, gr, c2, elv, _, d1, _, hg, hRg⟩ := hL.rec_at k hk
  subst elv
  obtain ⟨at_, hat⟩ : ∃ a, L.l[k].2 = a := ⟨_, rfl⟩
  have hatb : at_ < 18446744073709551616 := by
    have hiv : k < rv.length := by rw [hL.recs.1]; exact hk
    have := hL.recs.2 k rv[k] L.l[k] (List.getElem?_eq_getElem hiv) (List.getElem?_eq_getElem hk)
    rw [← hat]; exact this.2.1
  obtain ⟨n, hn⟩ : ∃ n, L.l.length = n := ⟨_, rfl⟩
  have hnc : n ≤ c := by
    rcases hL.own.2 with ⟨e, _⟩ | ⟨_, _, _, _, e, _, h5, _⟩
    · cases e
    · injection e with e1 e2 e3; omega
  have HNn := Lib.hid hn
  have HL := Lib.hid hL
  have HBk := Lib.hid hL.blk
  have hn0 := hL.n0
  have hn1 := hL.n1
  have hs1 := hL.s1
  have hlife := hL.b6
  have hfits := hW.fits
  rw [hat] at d1 HD2
  have HAt := Lib.hid hat
  have HDk := Lib.hid d1
  have HkL := Lib.hid hk
  rw [hn] at hk hll HBk
  have hbk := HBk.out
  have x3 := hbk.cell 3
  have x6 := hbk.cell 6
  have x7 := hbk.cell 7
  have hp1 := hbk.lt
  simp only [List.getElem?_toArray, List.getElem?_cons_zero, List.getElem?_cons_succ] at x3 x6 x7
  obtain ⟨t1, ht1⟩ : ∃ t, L.turn + 1 = t := ⟨_, rfl⟩
  have HT1 := Lib.hid ht1
  rw [ht1] at hturn HD2
  have et1 : (L.turn : Int) + 1 = (t1 : Int) := by omega
  obtain ⟨q, hq⟩ : ∃ q, t1 % 2 = q := ⟨_, rfl⟩
  have HQ := Lib.hid hq
  rw [hq] at HD2
  have hq2 : q < 2 := by omega
  have eq1 : (t1 : Int) % 2 = (q : Int) := by omega
  have hql : L.start + q < S.now.length := by omega
  clear hW hN hR hRD hL hat hn d1 hRg ht1 hq hbk
  have d1 : w1.cell? ⟨g, o + k * 2 + 1, none⟩ = some (.int .u64 at_) := HDk.out
  have u1 : (0 : Int) ≤ (k : Int) := by omega
  have u2 : (k : Int) < (n : Int) := by omega
  have u3 : ¬ m ≤ L.first := by omega
  go_wp2
  clear x3 x6 x7 d1
  have hS : Fr RD w1 w1.drew := (Fr.refl _ w1).drew
  refine Rg.begin (Fr RD w1) [] (by kernel_rfl) ?_
  refine Rg.op 0 (some 55) hS (v := ?v0) (a' := ?a0) (hy := fun wz hwz => ?h0) (ha := ?b0) (h := ?_)
  case h0 => (go_simp; try with_reducible rfl)
  case b0 => (simp only [Act.put, List.setIfInBounds_toArray, List.set_cons_zero, List.set_cons_succ]; rfl)
  refine Rg.op 1 (some 56) hS (v := ?v1) (a' := ?a1) (hy := fun wz hwz => ?h1) (ha := ?b1) (h := ?_)
  case h1 => (have hb := (HBk.out.fr hwz hap); have c0 := hb.cell 0; have hp := hb.lt; simp only [List.getElem?_toArray, List.getElem?_cons_zero, List.getElem?_cons_succ] at c0; clear hb; go_simp; try with_reducible rfl)
  case b1 => (simp only [Act.put, List.setIfInBounds_toArray, List.set_cons_zero, List.set_cons_succ]; rfl)
  refine Rg.op 2 (some 57) hS (v := ?v2) (a' := ?a2) (hy := fun wz hwz => ?h2) (ha := ?b2) (h := ?_)
  case h2 => (go_simp; try with_reducible rfl)
  case b2 => (simp only [Act.put, List.setIfInBounds_toArray, List.set_cons_zero, List.set_cons_succ]; rfl)
  refine Rg.op 3 (some 58) hS (v := ?v3) (a' := ?a3) (hy := fun wz hwz => ?h3) (ha := ?b3) (h := ?_)
  case h3 => (have hb := (HBk.out.fr hwz hap); have c0 := hb.cell 0; have hp := hb.lt; simp only [List.getElem?_toArray, List.getElem?_cons_zero, List.getElem?_cons_succ] at c0; clear hb; go_simp; try with_reducible rfl)
  case b3 => (simp only [Act.put, List.setIfInBounds_toArray, List.set_cons_zero, List.set_cons_succ]; rfl)
  refine Rg.op 4 (some 59) hS (v := ?v4) (a' := ?a4) (hy := fun wz hwz => ?h4) (ha := ?b4) (h := ?_)
  case h4 => (go_simp; try with_reducible rfl)
  case b4 => (simp only [Act.put, List.setIfInBounds_toArray, List.set_cons_zero, List.set_cons_succ]; rfl)
  refine Rg.op 5 (some 60) hS (v := ?v5) (a' := ?a5) (hy := fun wz hwz => ?h5) (ha := ?b5) (h := ?_)
  case h5 => (have hb := (HBk.out.fr hwz hap); have c1 := hb.cell 1; have hp := hb.lt; simp only [List.getElem?_toArray, List.getElem?_cons_zero, List.getElem?_cons_succ] at c1; clear hb; go_simp; try with_reducible rfl)
  case b5 => (simp only [Act.put, List.setIfInBounds_toArray, List.set_cons_zero, List.set_cons_succ]; rfl)
  refine Rg.op 6 (some 61) hS (v := ?v6) (a' := ?a6) (hy := fun wz hwz => ?h6) (ha := ?b6) (h := ?_)
  case h6 => (go_simp; try with_reducible rfl)
  case b6 => (simp only [Act.put, List.setIfInBounds_toArray, List.set_cons_zero, List.set_cons_succ]; rfl)
  refine Rg.op 7 (some 62) hS (v := ?v7) (a' := ?a7) (hy := fun wz hwz => ?h7) (ha := ?b7) (h := ?_)
  case h7 => (have hb := (HBk.out.fr hwz hap); have c1 := hb.cell 1; have hp := hb.lt; simp only [List.getElem?_toArray, List.getElem?_cons_zero, List.getElem?_cons_succ] at c1; clear hb; go_simp; try with_reducible rfl)
  case b7 => (simp only [Act.put, List.setIfInBounds_toArray, List.set_cons_zero, List.set_cons_succ]; rfl)
  refine Rg.op 8 (some 63) hS (v := ?v8) (a' := ?a8) (hy := fun wz hwz => ?h8) (ha := ?b8) (h := ?_)
  case h8 => (go_simp; try with_reducible rfl)
  case b8 => (simp only [Act.put, List.setIfInBounds_toArray, List.set_cons_zero, List.set_cons_succ]; rfl)
  refine Rg.op 9 (some 64) hS (v := ?v9) (a' := ?a9) (hy := fun wz hwz => ?h9) (ha := ?b9) (h := ?_)
  case h9 => (have hb := (HBk.out.fr hwz hap); have c10 := hb.cell 10; have hp := hb.lt; simp only [List.getElem?_toArray, List.getElem?_cons_zero, List.getElem?_cons_succ] at c10; clear hb; go_simp; try with_reducible rfl)
  case b9 => (simp only [Act.put, List.setIfInBounds_toArray, List.set_cons_zero, List.set_cons_succ]; rfl)
  refine Rg.op 10 (some 65) hS (v := ?v10) (a' := ?a10) (hy := fun wz hwz => ?h10) (ha := ?b10) (h := ?_)
  case h10 => (go_simp; try with_reducible rfl)
  case b10 => (simp only [Act.put, List.setIfInBounds_toArray, List.set_cons_zero, List.set_cons_succ]; rfl)
  refine Rg.op 11 (some 66) hS (v := ?v11) (a' := ?a11) (hy := fun wz hwz => ?h11) (ha := ?b11) (h := ?_)
  case h11 => (have hb := (HBk.out.fr hwz hap); have c10 := hb.cell 10; have hp := hb.lt; simp only [List.getElem?_toArray, List.getElem?_cons_zero, List.getElem?_cons_succ] at c10; clear hb; go_simp; try with_reducible rfl)
  case b11 => (simp only [Act.put, List.setIfInBounds_toArray, List.set_cons_zero, List.set_cons_succ]; rfl)
  refine Rg.op 12 (some 67) hS (v := (.int .u64 t1)) (a' := ?a12) (hy := fun wz hwz => ?h12) (ha := ?b12) (h := ?_)
  case h12 => (have u1 : IntKind.u64.wrap (t1 : Int) = (t1 : Int) := (by rw [IntKind.wrap_u64]; omega); go_simp; try with_reducible rfl)
  case b12 => (simp only [Act.put, List.setIfInBounds_toArray, List.set_cons_zero, List.set_cons_succ]; rfl)
  refine Rg.op 13 (some 68) hS (v := (.int .u64 q)) (a' := ?a13) (hy := fun wz hwz => ?h13) (ha := ?b13) (h := ?_)
  case h13 => (have u2 : Int.tmod (t1 : Int) 2 = (q : Int) := (by rw [Int.tmod_eq_emod_of_nonneg (by omega)]; exact eq1); have u3 : IntKind.u64.wrap (q : Int) = (q : Int) := (by rw [IntKind.wrap_u64]; omega); go_simp; try with_reducible rfl)
  case b13 => (simp only [Act.put, List.setIfInBounds_toArray, List.set_cons_zero, List.set_cons_succ]; rfl)
  refine Rg.op 14 (some 69) hS (v := (.int .i64 q)) (a' := ?a14) (hy := fun wz hwz => ?h14) (ha := ?b14) (h := ?_)
  case h14 => (have u3 : IntKind.i64.wrap (q : Int) = (q : Int) := (by rw [IntKind.wrap_i64]; omega); go_simp; try with_reducible rfl)
  case b14 => (simp only [Act.put, List.setIfInBounds_toArray, List.set_cons_zero, List.set_cons_succ]; rfl)
  refine Rg.op 15 (some 70) hS (v := (.int .i64 ((L.start + q : Nat) : Int))) (a' := ?a15) (hy := fun wz hwz => ?h15) (ha := ?b15) (h := ?_)
  case h15 => (have u4 : IntKind.i64.wrap ((L.start : Int) + (q : Int)) = ((L.start + q : Nat) : Int) := (by rw [IntKind.wrap_i64]; omega); go_simp; try with_reducible rfl)
  case b15 => (simp only [Act.put, List.setIfInBounds_toArray, List.set_cons_zero, List.set_cons_succ]; rfl)
  refine Rg.op 16 (some 71) hS (v := ?v16) (a' := ?a16) (hy := fun wz hwz => ?h16) (ha := ?b16) (h := ?_)
  case h16 => (go_simp; try with_reducible rfl)
  case b16 => (simp only [Act.put, List.setIfInBounds_toArray, List.set_cons_zero, List.set_cons_succ]; rfl)
  refine Rg.op 17 (some 72) hS (v := ?v17) (a' := ?a17) (hy := fun wz hwz => ?h17) (ha := ?b17) (h := ?_)
  case h17 => (have hb := (HBk.out.fr hwz hap); have c10 := hb.cell 10; have hp := hb.lt; simp only [List.getElem?_toArray, List.getElem?_cons_zero, List.getElem?_cons_succ] at c10; clear hb; go_simp; try with_reducible rfl)
  case b17 => (simp only [Act.put, List.setIfInBounds_toArray, List.set_cons_zero, List.set_cons_succ]; rfl)
  refine Rg.op 18 (some 73) hS (v := ?v18) (a' := ?a18) (hy := fun wz hwz => ?h18) (ha := ?b18) (h := ?_)
  case h18 => (go_simp; try with_reducible rfl)
  case b18 => (simp only [Act.put, List.setIfInBounds_toArray, List.set_cons_zero, List.set_cons_succ]; rfl)
  refine Rg.op 19 (some 74) hS (v := ?v19) (a' := ?a19) (hy := fun wz hwz => ?h19) (ha := ?b19) (h := ?_)
  case h19 => (have hb := (HBk.out.fr hwz hap); have c10 := hb.cell 10; have hp := hb.lt; simp only [List.getElem?_toArray, List.getElem?_cons_zero, List.getElem?_cons_succ] at c10; clear hb; go_simp; try with_reducible rfl)
  case b19 => (simp only [Act.put, List.setIfInBounds_toArray, List.set_cons_zero, List.set_cons_succ]; rfl)
  refine Rg.op 20 (some 75) hS (v := (.int .u64 t1)) (a' := ?a20) (hy := fun wz hwz => ?h20) (ha := ?b20) (h := ?_)
  case h20 => (have u1 : IntKind.u64.wrap (t1 : Int) = (t1 : Int) := (by rw [IntKind.wrap_u64]; omega); go_simp; try with_reducible rfl)
  case b20 => (simp only [Act.put, List.setIfInBounds_toArray, List.set_cons_zero, List.set_cons_succ]; rfl)
  refine Rg.op 21 (some 76) hS (v := ?v21) (a' := ?a21) (hy := fun wz hwz => ?h21) (ha := ?b21) (h := ?_)
  case h21 => (go_simp; try with_reducible rfl)
  case b21 => (simp only [Act.put, List.setIfInBounds_toArray, List.set_cons_zero, List.set_cons_succ]; rfl)
  refine Rg.op 22 (some 77) hS (v := ?v22) (a' := ?a22) (hy := fun wz hwz => ?h22) (ha := ?b22) (h := ?_)
  case h22 => (go_simp; try with_reducible rfl)
  case b22 => (simp only [Act.put, List.setIfInBounds_toArray, List.set_cons_zero, List.set_cons_succ]; rfl)
  refine Rg.call 23 (some 78) (hrun := ?h23) (hcall := begin_any t1 m at_ w1.drew (by omega) (by omega) hatb) (h := ?_)
  case h23 => (go_simp)
  rintro e w2 ⟨rfl, hb2, hf2⟩
  have hf2' : Fr Nob w1 w2 := (Fr.refl Nob w1).drew.trans hf2
  have hS2 : Fr RD w1 w2 := hf2'.mono (fun _ _ h => h.elim)
  obtain ⟨g2, hg2⟩ : ∃ g2, w1.drew.heap.size = g2 := ⟨_, rfl⟩
  rw [hg2] at hb2 ⊢
  clear hg2
  have HR2 : Hid (Row64 w2 g2 (begB t1 m at_)) := hb2
  clear hb2 hf2
  refine ⟨_, ?a23, rfl, ?b23, (fun _ => hS2), ?_⟩
  case b23 => (simp only [Act.put, List.setIfInBounds_toArray, List.set_cons_zero, List.set_cons_succ]; rfl)
  refine Rg.call 24 (some 79) (hrun := ?h24) (hcall := Write_in (L.start + q) g2 64 _ (HW.out.d.new hf2') HD1.out hql (begB_length _ _ _) HR2.out (by omega)) (h := ?_)
  case h24 => (go_simp)
  rintro e w3 ⟨rfl, hd3, hf3⟩
  have hS3 : Fr RD w1 w3 := hS2.trans hf3.fr
  have HD3 := Lib.hid hd3
  have HF3 := Lib.hid hf3
  clear hd3 hf3
  refine ⟨_, ?a24, rfl, ?b24, (fun _ => hS3), ?_⟩
  case b24 => (simp only [Act.put, List.setIfInBounds_toArray, List.set_cons_zero, List.set_cons_succ]; rfl)
  refine Rg.op 25 (some 8) hS3 (v := ?v25) (a' := ?a25) (hy := fun wz hwz => ?h25) (ha := ?b25) (h := ?_)
  case h25 => (go_simp; try with_reducible rfl)
  case b25 => (simp only [Act.put, List.setIfInBounds_toArray, List.set_cons_zero, List.set_cons_succ]; rfl)
  refine Rg.done _ (h := ?_)
  have HFl := Lib.hid (Flush_any HD3.out (by rw [DS.wr_waits]; omega))
  have HB3 := Lib.hid (HBk.out.fr hS3 hap)
  have y0 := HB3.out.cell 0
  have hp3 := HB3.out.lt
  simp only [List.getElem?_toArray, List.getElem?_cons_zero, List.getElem?_cons_succ] at y0
  unfold DS.fcode at HFl
  rw [HD2.out] at HFl
  go_wp2_with fail
  refine HFl.out.mono ?_
  rintro e w4 ⟨rfl, hd4, hf4⟩
  have hz2 := hf2'.size
  have hz3 := HF3.out.size
  have hz4 := hf4.size
  have hF4 : Fr RD w1 w4 := by
    refine hS3.step hf4.fr (fun i hi h => ?_)
    rcases h with h | h
    · exact h
    · omega
  have HL4 := Lib.hid (HL.out.fr hF4 (fun b hb h => HW.out.apart b hb h))
  have HD4 := Lib.hid hd4
  have HN4 : Hid (New w0 w4) := HN.out.step hF4 HRDb.out
  have hap4 : ∀ b, R b → ¬ Ext RD w2 w3 b := by
    rintro b hb (h | h)
    · exact HW.out.apart b hb h
    · have := HL.out.lt b hb; omega
  have HA4 := Lib.hid hap4
  have hp4 := HL4.out.blk.lt
  have z6 := HL4.out.blk.cell 6
  simp only [List.getElem?_toArray, List.getElem?_cons_zero, List.getElem?_cons_succ] at z6
  have hRp := HL4.out.rp
  clear hd4 hf4 hF4 HFl HB3 y0 hap4
  rw [HNn.out] at z6 HL4
  go_wp2
  have hkc : k ≤ c := by omega
  go_loopw [11, 98] (fun _ i wr => ∃ j : Nat, j ≤ k ∧ i = .int .i64 j ∧ Hid (LogAt R wr p d (.slice (some ⟨g, o, none⟩) n c) rv { L with room := L.room + (sizes (L.rs.take j) : Int) }) ∧ Hid (DiskOk (Ext RD w2 w3) wr d (S.wr (L.start + q) (begB t1 m at_)).flushed) ∧ Hid (New w0 wr)) (fun _ i _ => k - (intOf i).toNat)
  case atStart => exact ⟨0, Nat.zero_le _, rfl, by rw [List.take_zero, show sizes [] = 0 from rfl, show (((0 : Nat) : Int)) = 0 from rfl, Int.add_zero]; exact HL4, HD4, HN4⟩
  case round =>
    obtain ⟨j, hj, rfl, hLj, hDj, hNj⟩ := hrel
    have hszj : sizes (L.rs.take j) ≤ 2016 * 4000000 := by
      refine Nat.le_trans (sizes_bound _ (fun r hr => ?_)) (by rw [List.length_take, LS.rs_length, HNn.out]; omega)
      have hr1 := List.mem_of_mem_take hr
      unfold LS.rs at hr1
      obtain ⟨x, hx, rfl⟩ := List.mem_map.1 hr1
      exact HSm.out x hx
    by_cases hlt : j < k
    · have hjn : j < L.l.length := by rw [HNn.out]; omega
      have hs := sizes_take_succ L j hjn
      have hsmj : L.l[j].1.length ≤ 2000 := HSm.out _ (List.getElem_mem hjn)
      have hrc := hLj.out.rec_at j hjn
      obtain ⟨g', o', c', gr, c2, elv, f0, f1, hrec, hg, _⟩ := hrc
      injection elv with ea eb ec
      injection ea with ea
      injection ea with ea1 ea2
      subst ea1 ea2 ec
      clear eb
      obtain ⟨b, hb⟩ : ∃ b, L.l[j].1.length = b := ⟨_, rfl⟩
      obtain ⟨a2, ha2⟩ : ∃ a, L.l[j].2 = a := ⟨_, rfl⟩
      have e0 : wr.cell? ⟨g, o + j * 2, none⟩ = some (.slice (some ⟨gr, 0, none⟩) b c2) := by rw [← hb]; exact f0
      have e1 : wr.cell? ⟨g, o + j * 2 + 1, none⟩ = some (.int .u64 a2) := by rw [← ha2]; exact f1
      rw [hb] at hs hsmj
      have HS := Lib.hid hs
      obtain ⟨ro, hro⟩ : ∃ ro, L.room + (sizes (L.rs.take j) : Int) = ro := ⟨_, rfl⟩
      have hro0 : -4611686018427387904 ≤ ro := by omega
      have hro1 : ro ≤ 4611686118427387904 := by omega
      have hsro : L.room + (sizes (L.rs.take (j + 1)) : Int) = ro + (16 + (b : Int)) := by omega
      have HSr := Lib.hid hsro
      rw [hro] at hLj
      clear hs hb ha2 hrec hro hsro z6 f0 f1
      go_wp2
      obtain ⟨wA, hA⟩ : ∃ wA, (wr.alloc (.cells #[.slice (some ⟨gr, 0, none⟩) b c2, .int .u64 a2] 99)) = wA := ⟨_, rfl⟩
      have hfA : Fr Nob wr wA := by rw [← hA]; exact (Fr.refl _ wr).alloc _
      have hbA : Blk wA wr.heap.size 99 #[.slice (some ⟨gr, 0, none⟩) b c2, .int .u64 a2] := by rw [← hA]; exact Blk.new _ _ _
      rw [hA]
      clear hA
      have HBA := Lib.hid hbA
      have HLA := Lib.hid (hLj.out.fr hfA (fun _ _ h => h))
      have HDA := Lib.hid (hDj.out.new hfA)
      have HNA := Lib.hid (hNj.out.new hfA)
      have hpA := HLA.out.blk.lt
      have f11 := HLA.out.blk.frozen 11
      have c11 := HLA.out.blk.cell 11
      simp only [List.getElem?_toArray, List.getElem?_cons_zero, List.getElem?_cons_succ] at c11
      clear hbA e0 e1
      have hS : Fr Nob wA wA.drew := (Fr.refl _ wA).drew
      refine Rg.begin' (Fr Nob wA) [11] (by kernel_rfl) ?_
      refine Rg.op 0 (some 102) hS (v := ?v0l) (a' := ?a0l) (hy := fun wz hwz => ?h0l) (ha := ?b0l) (h := ?_)
      case h0l => (go_simp; try with_reducible rfl)
      case b0l => (simp only [Act.put, List.setIfInBounds_toArray, List.set_cons_zero, List.set_cons_succ]; rfl)
      refine Rg.op 1 (some 103) hS (v := ?v1l) (a' := ?a1l) (hy := fun wz hwz => ?h1l) (ha := ?b1l) (h := ?_)
      case h1l => (have hb := (HLA.out.blk.fr hwz (fun h => h)); have cc := hb.cell 11; have hpq := hb.lt; simp only [List.getElem?_toArray, List.getElem?_cons_zero, List.getElem?_cons_succ] at cc; clear hb; go_simp; try with_reducible rfl)
      case b1l => (simp only [Act.put, List.setIfInBounds_toArray, List.set_cons_zero, List.set_cons_succ]; rfl)
      refine Rg.op 2 (some 104) hS (v := ?v2l) (a' := ?a2l) (hy := fun wz hwz => ?h2l) (ha := ?b2l) (h := ?_)
      case h2l => (go_simp; try with_reducible rfl)
      case b2l => (simp only [Act.put, List.setIfInBounds_toArray, List.set_cons_zero, List.set_cons_succ]; rfl)
      refine Rg.op 3 (some 105) hS (v := ?v3l) (a' := ?a3l) (hy := fun wz hwz => ?h3l) (ha := ?b3l) (h := ?_)
      case h3l => (have hb := (HLA.out.blk.fr hwz (fun h => h)); have cc := hb.cell 11; have hpq := hb.lt; simp only [List.getElem?_toArray, List.getElem?_cons_zero, List.getElem?_cons_succ] at cc; clear hb; go_simp; try with_reducible rfl)
      case b3l => (simp only [Act.put, List.setIfInBounds_toArray, List.set_cons_zero, List.set_cons_succ]; rfl)
      refine Rg.op 4 (some 106) hS (v := ?v4l) (a' := ?a4l) (hy := fun wz hwz => ?h4l) (ha := ?b4l) (h := ?_)
      case h4l => (go_simp; try with_reducible rfl)
      case b4l => (simp only [Act.put, List.setIfInBounds_toArray, List.set_cons_zero, List.set_cons_succ]; rfl)
      refine Rg.op 5 (some 107) hS (v := ?v5l) (a' := ?a5l) (hy := fun wz hwz => ?h5l) (ha := ?b5l) (h := ?_)
      case h5l => (have hb := (HBA.out.fr hwz (fun h => h)); have cr := hb.cell 0; simp only [List.getElem?_toArray, List.getElem?_cons_zero, List.getElem?_cons_succ] at cr; clear hb; go_simp; try with_reducible rfl)
      case b5l => (simp only [Act.put, List.setIfInBounds_toArray, List.set_cons_zero, List.set_cons_succ]; rfl)
      refine Rg.op 6 (some 108) hS (v := ?v6l) (a' := ?a6l) (hy := fun wz hwz => ?h6l) (ha := ?b6l) (h := ?_)
      case h6l => (go_simp; try with_reducible rfl)
      case b6l => (simp only [Act.put, List.setIfInBounds_toArray, List.set_cons_zero, List.set_cons_succ]; rfl)
      refine Rg.op 7 (some 109) hS (v := ?v7l) (a' := ?a7l) (hy := fun wz hwz => ?h7l) (ha := ?b7l) (h := ?_)
      case h7l => (have u3 : IntKind.i64.wrap (16 + (b : Int)) = 16 + (b : Int) := (by rw [IntKind.wrap_i64]; omega); go_simp; try with_reducible rfl)
      case b7l => (simp only [Act.put, List.setIfInBounds_toArray, List.set_cons_zero, List.set_cons_succ]; rfl)
      refine Rg.op 8 (some 110) hS (v := (.int .i64 (ro + (16 + (b : Int))))) (a' := ?a8l) (hy := fun wz hwz => ?h8l) (ha := ?b8l) (h := ?_)
      case h8l => (have u4 : IntKind.i64.wrap (ro + (16 + (b : Int))) = ro + (16 + (b : Int)) := (by rw [IntKind.wrap_i64]; omega); go_simp; try with_reducible rfl)
      case b8l => (simp only [Act.put, List.setIfInBounds_toArray, List.set_cons_zero, List.set_cons_succ]; rfl)
      refine Rg.op 9 (some 111) hS (v := ?v9l) (a' := ?a9l) (hy := fun wz hwz => ?h9l) (ha := ?b9l) (h := ?_)
      case h9l => (go_simp; try with_reducible rfl)
      case b9l => (simp only [Act.put, List.setIfInBounds_toArray, List.set_cons_zero, List.set_cons_succ]; rfl)
      refine Rg.op 10 (some 112) hS (v := ?v10l) (a' := ?a10l) (hy := fun wz hwz => ?h10l) (ha := ?b10l) (h := ?_)
      case h10l => (go_simp; try with_reducible rfl)
      case b10l => (simp only [Act.put, List.setIfInBounds_toArray, List.set_cons_zero, List.set_cons_succ]; rfl)
      refine Rg.store 11 (w' := (wA.drew.setCell ⟨p, 11, none⟩ (.int .i64 (ro + (16 + (b : Int)))))) (hrun := ?h11l) (hS := (fun h => absurd (by decide) h)) (h := ?_)
      case h11l => (go_simp; try with_reducible rfl)
      refine Rg.done _ (h := ?_)
      have hfS : Fr (fun x => x = p) wA (wA.drew.setCell ⟨p, 11, none⟩ (.int .i64 (ro + (16 + (b : Int))))) := (Fr.refl (fun x => x = p) wA).drew.setCell (p := ⟨p, 11, none⟩) (.inr rfl) _
      have HLS : Hid (LogAt R (wA.drew.setCell ⟨p, 11, none⟩ (.int .i64 (ro + (16 + (b : Int))))) p d (.slice (some ⟨g, o, none⟩) n c) rv { L with room := L.room + (sizes (L.rs.take (j + 1)) : Int) }) := by
        have hx := HLA.out
        rw [Hid, HSr.out]
        exact hx.upd hfS _ _ _ _ _ _ _ _ hx.b1 hx.b2 hx.b3 hx.b4 hx.b5 hx.b6 hx.b7 (hx.blk.drew.set_ 11 _)
      have HDS := Lib.hid (HDA.out.fr hfS (fun b hb e => HA4.out p hRp (by subst e; exact hb)))
      have HNS := Lib.hid (HNA.out.step hfS (fun b hb => by subst hb; exact HRb.out _ hRp))
      obtain ⟨wS, hwS⟩ : ∃ wS, wA.drew.setCell ⟨p, 11, none⟩ (.int .i64 (ro + (16 + (b : Int)))) = wS := ⟨_, rfl⟩
      rw [hwS] at HLS HDS HNS ⊢
      clear hwS hfS
      go_wp2
      go_roundw
      case rel => exact ⟨j + 1, by omega, by go_num, HLS, HDS, HNS⟩
      case measure => simp [intOf]; omega
    · obtain rfl : j = k := by omega
      have hbk := hLj.out.blk
      have v10 := hbk.cell 10
      have v6 := hbk.cell 6
      have v3 := hbk.cell 3
      have q10 := hbk.frozen 10
      have q6 := hbk.frozen 6
      have q3 := hbk.frozen 3
      have hpr := hbk.lt
      simp only [List.getElem?_toArray, List.getElem?_cons_zero, List.getElem?_cons_succ] at v10 v6 v3
      have hcj : ¬ c = j := by omega
      have u1 : IntKind.u64.wrap (t1 : Int) = (t1 : Int) := by rw [IntKind.wrap_u64]; omega
      have HBr := Lib.hid hbk
      clear hbk z6
      go_wp2
      obtain ⟨wE, hE⟩ : ∃ wE, ((wr.setCell ⟨p, 10, none⟩ (.int .u64 (t1 : Int))).setCell ⟨p, 6, none⟩ (.slice (some ⟨g, o + j * 2, none⟩) (n - j) (c - j))).setCell ⟨p, 3, none⟩ (.int .u64 (m : Int)) = wE := ⟨_, rfl⟩
      have hcut := LogAt.cut (L := { L with room := L.room + (sizes (L.rs.take j) : Int) }) (W := wE) (by have := hLj.out; rw [← HNn.out] at this; exact this) j HkL.out (by show L.first + j < _; rw [HM.out]; exact hfirst) (by show L.turn + 1 < _; rw [HT1.out]; exact hturn) (by rw [← hE]; show _ = ((wr.setCell _ (.int .u64 ((L.turn + 1 : Nat) : Int))).setCell _ (.slice _ (L.l.length - j) _)).setCell _ (.int .u64 ((L.first + j : Nat) : Int)); rw [HNn.out, HT1.out, HM.out])
      go_ret
      rw [hE]
      refine ⟨rfl, R, Ext RD w2 w3, ⟨⟨_, _, hcut.1⟩, ?_, HA4.out, ?_⟩, HRb.out, ?_, hNj.out.step hcut.2 (fun b hb => by subst hb; exact HRb.out _ hRp)⟩
      · rw [HT1.out, HQ.out, HAt.out]
        exact hDj.out.fr hcut.2 (fun b hb e => HA4.out p hRp (by subst e; exact hb))
      · show L.start + L.n ≤ _
        rw [DS.flushed_length, DS.wr_length]; exact hfits
      · rintro b (h | h)
        · exact HRDb.out b h
        · have := HN.out.size; omega

set_option maxHeartbeats 800000 in
set_option maxRecDepth 100000 in
theorem Cut_low {w w0 : World} {p d nx : Nat} {L : LS} {S : DS} (lsn : Nat) (hnx : w.cell? ⟨p, 4, none⟩ = some (.int .u64 nx)) (hm : lsn ≤ nx) (hm2 : lsn ≤ L.first) (hfirst : L.first < 18446744073709551616)
    (hF : Calls Try.prog 40 #[.pointer (some ⟨p, 0, none⟩)] w fun e w1 => e = .returned (.int .i64 0) ∧ WSt w0 p d L S w1) :
    Calls Try.prog 42 #[.pointer (some ⟨p, 0, none⟩), .int .u64 (lsn : Int)] w fun e w' => e = .returned (.int .i64 0) ∧ WSt w0 p d L S w' := by
  have HF := Lib.hid hF
  have hpw := cell_lt hnx
  clear hF
  go_enter Try.func42, Try.ntmps42
  go_wp2_with fail
  refine HF.out.mono ?_
  rintro e w1 ⟨rfl, hW⟩
  have HW := Lib.hid hW
  obtain ⟨R, RD, hW, _⟩ := hW
  obtain ⟨lv, rv, hL⟩ := hW.l
  have x3 := hL.blk.cell 3
  have hp1 := hL.blk.lt
  simp only [List.getElem?_toArray, List.getElem?_cons_zero, List.getElem?_cons_succ] at x3
  clear hL hW
  go_wp2
  go_ret
  exact ⟨rfl, HW.out⟩
end Go.Proofs.Ytieiopeblleheaa
