/-
  TxnW4, WalCutA, in one text.
-/
import Derived.Test.YtfapklpcgcgahaaGreatDoorMg35
import Derived.Test.YtfapklpcgcgahaaGreatDoorMg03
import Derived.Test.YtfapklpcgcgahaaGreatDoorMg21
/-
  What may turn of a world, and what a transaction's pages are long.
-/
namespace Go.Proofs.YtfapklpcgcgahaaGreatDoor
set_option linter.unusedSimpArgs false
set_option linter.unusedVariables false
open Go.RowKit Go.Maps

section
variable {w0 w w' : World} {RS RO U : Nat → Prop} {g s M K : Nat} {T : TS} {log frames : Int} {nv lv : Value} {N : Pgs} {d logn : Nat} {C B : Pgs} {svs : List (Nat × Nat × Pgs)} {n last undone : Nat} {q : Int}
theorem TB.len (hb : TB T d logn C B svs n last undone q) (h : TxIn RS RO U w s 6 M K T) (k : Nat) (hk : k < 6) : (C k).length = 480 := by
  rw [← hb.pages]; exact (h.pool.vok k hk).1.d
theorem WasAt.get {base i : Nat} {A : Nat → Prop} {vw : Value} {P : Nat → Pgs} (h : WasAt w base A vw i P) (k : Nat) (hk : k < i) : ∃ gv cv gk ck, vw = .slice (some ⟨gv, 0, none⟩) i cv ∧ i ≤ cv ∧ w.cell? ⟨gv, k, none⟩ = some (.slice (some ⟨gk, 0, none⟩) 6 ck) ∧ Row6 w base (.slice (some ⟨gk, 0, none⟩) 6 ck) (P k) ∧ ¬ A gk := by
  obtain ⟨⟨ss, h1, h2⟩, h3⟩ := h
  obtain ⟨gk, ck, e1, e2, e3⟩ := h2 k hk
  have h1' := h1
  rcases h1'.2 with ⟨_, e⟩ | ⟨gv, cv, cur, e, _, _, h5, _⟩
  · omega
  · subst e
    exact ⟨gv, cv, gk, ck, rfl, h5, by rw [h1.cellAt k (by omega)]; exact e1, e2, e3⟩
end
/-- All of a world's blocks that may turn. -/
def AllN (RS RO U : Nat → Prop) (nv : Value) : Nat → Prop := fun b => All3 RS RO U b ∨ nv.ownBlock = some b
theorem Subs.alln {w w' : World} {RS RO U RS' RO' U' : Nat → Prop} {nv : Value} (hs : Subs RS RS' RO RO' U U' w w') : ∀ b, AllN RS' RO' U' nv b → AllN RS RO U nv b ∨ w.heap.size ≤ b := fun b hb => by
  rcases hb with (hb | hb | hb) | hb
  · exact (hs.rs b hb).imp (fun e => .inl (.inl e)) id
  · exact (hs.ro b hb).imp (fun e => .inl (.inr (.inl e))) id
  · exact (hs.u b hb).imp (fun e => .inl (.inr (.inr e))) id
  · exact .inl (.inr hb)
end Go.Proofs.YtfapklpcgcgahaaGreatDoor

/-
  Cut: all records are gone (nothing threatens the disk).
-/
namespace Go.Proofs.YtfapklpcgcgahaaGreatDoor
set_option linter.unusedSimpArgs false
set_option linter.unusedVariables false
open Go.RowKit

/-- A Flush, whatever there is to write; all lasts behind it. -/
theorem Flush_still2 {w : World} {p d N : Nat} {L : LS} {S : DS} {R RD : Nat → Prop} (h : WalIn w p d L S R RD) (hg : LogGood L N) (hst : Still S) (hn : 16 ≤ L.n) :
    Calls Tryz.prog 50 #[.pointer (some ⟨p, 0, none⟩)] w fun e w' => e = .returned (.int .i64 0) ∧ ∃ L' S' RD', WalIn w' p d L' S' R RD' ∧ LSame L L' ∧ LogGood L' N ∧ L'.kept = L'.fin ∧ Still S' ∧ S'.now.length = S.now.length ∧ (∀ j, (j < L.start ∨ L.start + L.n ≤ j) → S'.now[j]? = S.now[j]?) ∧ (∀ b, RD' b → RD b ∨ w.heap.size ≤ b) ∧ Fr (fun b => R b ∨ RD b) w w' := by
  by_cases hk : L.kept = L.fin
  · refine (Flush_none h hst.calm.dead hk).mono ?_
    rintro e w' ⟨rfl, hf⟩
    exact ⟨rfl, L, S, RD, ⟨h.l.new hf, h.d.new hf, h.apart, h.fits⟩, LSame.refl L, hg, hk, hst, rfl, fun _ _ => rfl, fun b hb => .inl hb, hf.mono (fun _ _ h => h.elim)⟩
  · have hkl := hg.kept
    obtain ⟨a0, ha⟩ := hg.laid
    have hN := hg.N1
    have hfin := hg.fin
    have hnx := hg.next
    have h1 := hg.nx
    have h2 := hg.f1
    have hpos := hg.some (by omega)
    have hcalm := hst.calm
    refine (Flush_some h ha (by omega) hpos (by omega) hg.sm (by omega) (by rw [hst.waits]; simp) (by omega) (by omega) (by omega) (fun j _ => (LS.wrote_calm L _ _ hcalm j).dead)).mono ?_
    rintro e w' ⟨rfl, hl, ⟨RD', hd', hRD'⟩, hf⟩
    have hc2 := LS.wrote_calm L (L.from0 a0 / 48) (L.wbs a0) hcalm (secs (L.wbs a0).length)
    have e1 : (L.wrote S (L.from0 a0 / 48) (L.wbs a0) (secs (L.wbs a0).length)).flushed.now = (L.wrote S (L.from0 a0 / 48) (L.wbs a0) (secs (L.wbs a0).length)).now := by rw [hc2.flushed_eq]
    have e2 : (L.wrote S (L.from0 a0 / 48) (L.wbs a0) (secs (L.wbs a0).length)).flushed.waits = [] := by rw [hc2.flushed_eq]
    have e3 : (L.wrote S (L.from0 a0 / 48) (L.wbs a0) (secs (L.wbs a0).length)).flushed.now.length = S.now.length := by rw [e1, LS.wrote_length]
    refine ⟨rfl, L.flushed', _, RD', ⟨hl, hd', fun b hb hd => ?_, by rw [e3]; exact h.fits⟩, LSame.flushed' L, hg.flushed', rfl, ⟨hc2.flushed, e2⟩, e3, fun j hj => ?_, hRD', hf⟩
    · rcases hRD' b hd with h' | h'
      · exact h.apart b hb h'
      · have := h.l.lt hb; omega
    · refine getD_get e3 ?_
      rw [e1]
      exact LS.wrote_other L _ _ hcalm _ j (fun i _ => by have := place_in L hn (L.from0 a0 / 48 + i); omega)

/-- A log behind a Cut of all records. -/
def LS.cutA (L : LS) : LS := { L with l := [], first := L.next, turn := L.turn + 1, room := L.room + (sizes L.rs : Int) }
theorem LogGood.cutA {L : LS} {N : Nat} (h : LogGood L N) (hl : 0 < L.l.length) (hk : L.kept = L.fin) (hr : L.room + (sizes L.rs : Int) ≤ 2000000) : LogGood L.cutA N where
  laid := ⟨L.fin, fun i hi => absurd hi (by show ¬ i < 0; omega), rfl⟩
  kept := h.kept
  sm := fun x hx => by
    have hx : x ∈ ([] : List (List UInt8 × Nat)) := hx
    simp at hx
  nx := rfl
  f1 := by have h1 := h.f1; have h2 := h.nx; show 1 ≤ L.next; omega
  fin := h.fin
  next := h.next
  some := fun e => absurd e (by show ¬ L.kept < L.fin; omega)
  room := hr
  N1 := h.N1
  turn := by have h1 := h.turn; have h2 := h.nx; show L.turn + 1 < L.next; omega
theorem LSame.cutA {L L' : LS} (h : LSame L L') : LSame L.cutA L'.cutA :=
  ⟨h.start, h.n, h.next, h.next, rfl, h.fin, by show L'.room + (sizes L'.rs : Int) = L.room + (sizes L.rs : Int); rw [h.room]; unfold LS.rs; rw [h.l], h.life, by show L'.turn + 1 = L.turn + 1; rw [h.turn]⟩
theorem LogAt.cutA {R : Nat → Prop} {w W : World} {p d g o c n : Nat} {rv : List (Value × Nat)} {L : LS} (h : LogAt R w p d (.slice (some ⟨g, o, none⟩) n c) rv L) (o2 c2 : Nat) (ho : o2 + c2 * 2 ≤ o + c * 2) (hc2 : c2 ≤ c) (hf : L.next < 18446744073709551616) (ht : L.turn + 1 < 18446744073709551616)
    (hW : W = (((w.setCell ⟨p, 10, none⟩ (.int .u64 ((L.turn + 1 : Nat) : Int))).setCell ⟨p, 6, none⟩ (.slice (some ⟨g, o2, none⟩) 0 c2)).setCell ⟨p, 3, none⟩ (.int .u64 (L.next : Int)))) :
    LogAt R W p d (.slice (some ⟨g, o2, none⟩) 0 c2) [] { L with l := [], first := L.next, turn := L.turn + 1 } ∧ Fr (fun b => b = p) w W := by
  have fW : Fr (fun b => b = p) w W := by
    rw [hW]
    exact (((Fr.refl (fun b => b = p) w).setCell (p := ⟨p, 10, none⟩) (.inr rfl) _).setCell (p := ⟨p, 6, none⟩) (.inr rfl) _).setCell (p := ⟨p, 3, none⟩) (.inr rfl) _
  have hb := ((h.blk.set_ 10 (.int .u64 ((L.turn + 1 : Nat) : Int))).set_ 6 (.slice (some ⟨g, o2, none⟩) 0 c2)).set_ 3 (.int .u64 (L.next : Int))
  rw [← hW] at hb
  refine ⟨?_, fW⟩
  obtain ⟨cur, q1, q2, q3⟩ : ∃ cur, Blk w g 140 cur ∧ c ≤ maxLen ∧ o + c * 2 ≤ cur.size := by
    rcases h.own.2 with ⟨e, _⟩ | ⟨g', o', c', cur, e, q1, _, q2, q3, _⟩
    · cases e
    · simp only [Value.slice.injEq, Option.some.injEq, Addr.mk.injEq, and_true, true_and] at e
      obtain ⟨⟨rfl, rfl⟩, _, rfl⟩ := e
      exact ⟨cur, q1, q2, q3⟩
  exact {
    blk := hb
    own := ⟨rfl, .inr ⟨g, o2, c2, cur, rfl, q1.fr fW (fun he => by subst he; exact Blk.ownF_ne h.blk h.own (by decide) rfl), Nat.zero_le _, Nat.le_trans hc2 q2, Nat.le_trans ho q3, rfl⟩⟩
    recs := ⟨rfl, fun i x y hx hy => by
      have hy : ([] : List (List UInt8 × Nat))[i]? = some y := hy
      simp at hy⟩
    nn := fun x hx => by simp at hx
    rp := h.rp
    rl := fun x hx => h.rl x (by rw [← hx]; rfl)
    lt := fun b hb => Nat.lt_of_lt_of_le (h.lt b hb) fW.size
    n0 := h.n0
    n1 := h.n1
    s1 := h.s1
    b1 := hf
    b2 := h.b2
    b3 := h.b3
    b4 := h.b4
    b5 := h.b5
    b6 := h.b6
    b7 := ht }

theorem sizes_takeS (L : LS) (i : Nat) (h : i < L.l.length) : sizes (L.rs.take (i + 1)) = sizes (L.rs.take i) + (16 + L.l[i].1.length) := by
  rw [List.take_add_one, List.getElem?_eq_getElem (by rw [LS.rs_length]; exact h), sizes_append]
  have e : (L.rs[i]'(by rw [LS.rs_length]; exact h)) = L.l[i].1 := by simp [LS.rs]
  rw [e]
  simp [sizes]

set_option maxHeartbeats 3200000 in
set_option maxRecDepth 100000 in
theorem Cut_all {w : World} {p d N : Nat} {L0 : LS} {S0 : DS} {R RD0 : Nat → Prop} (h : WalIn w p d L0 S0 R RD0) (hg0 : LogGood L0 N) (hst0 : Still S0) (hn0 : 16 ≤ L0.n) (hl0 : 0 < L0.l.length) (hr0 : 0 ≤ L0.room) (hrs : L0.room + (sizes L0.rs : Int) ≤ 2000000) :
    Calls Tryz.prog 72 #[.pointer (some ⟨p, 0, none⟩), .int .u64 (L0.next : Int)] w fun e w' => e = .returned (.int .i64 0) ∧ ∃ L' S' RD', WalIn w' p d L' S' R RD' ∧ LSame L0.cutA L' ∧ LogGood L' N ∧ Still S' ∧ S'.now.length = S0.now.length ∧ (∀ j, (j < L0.start ∨ L0.start + L0.n ≤ j) → S'.now[j]? = S0.now[j]?) ∧ (∀ b, RD' b → RD0 b ∨ w.heap.size ≤ b) ∧ Fr (fun b => R b ∨ RD0 b) w w' := by
  have HF := Lib.hid (Flush_still2 h hg0 hst0 hn0)
  obtain ⟨lv0, rv0, hL0⟩ := h.l
  have x4 := hL0.blk.cell 4
  have hpw := hL0.blk.lt
  have hm64 := hL0.b2
  have HRlt := Lib.hid (fun b (hb : R b) => hL0.lt b hb)
  simp only [List.getElem?_toArray, List.getElem?_cons_zero, List.getElem?_cons_succ] at x4
  have hgt := hg0.turn
  have hgn := hg0.next
  have hgx := hg0.nx
  have hgN := hg0.N1
  have hgl := hg0.fin
  have hml : L0.first < L0.next := by omega
  have hll : L0.l.length < 4000000 := by omega
  have HC0 : Hid (∀ L' : LS, LSame L0 L' → LogGood L' N → L'.kept = L'.fin → LogGood L'.cutA N) := fun L' e e2 e3 => e2.cutA (by rw [e.l]; exact hl0) e3 (by rw [e.room]; unfold LS.rs; rw [e.l]; exact hrs)
  have HRs := Lib.hid hrs
  clear h hst0 hL0
  obtain ⟨m, hmm⟩ : ∃ m, L0.next = m := ⟨_, rfl⟩
  rw [hmm] at x4 hm64 hml hgn hgx ⊢
  go_enter Tryz.func72, Tryz.ntmps72
  go_wp2_with fail
  clear x4 hpw
  refine HF.out.mono ?_
  rintro e w1 ⟨rfl, L, S, RD, hW, hsame, hg, hkf, hst, hlen, hoth, hsub, hfr⟩
  clear HF
  have HSame := Lib.hid hsame
  have HG := Lib.hid hg
  have HCut := Lib.hid (HC0.out L hsame hg hkf)
  have HSt := Lib.hid hst
  have HLen := Lib.hid hlen
  have HOth := Lib.hid hoth
  have HSub := Lib.hid hsub
  have HN := Lib.hid hfr
  have HSm := Lib.hid hg.sm
  have hsn := hsame.next
  rw [hmm] at hsn
  have hsf := hsame.first
  have hsl := hsame.l
  have hsr := hsame.room
  have hst2 := hsame.turn
  rw [← hsf] at hml hgx hgt
  rw [← hsl] at hl0 hll hgx
  rw [← hst2] at hgt
  rw [← hsr] at hr0
  have hrsz : L.room + (sizes L.rs : Int) ≤ 2000000 := by have := HRs.out; rw [hsr]; unfold LS.rs; rw [hsl]; exact this
  have hwl : S.waits.length + 1 < 4000000000 := by rw [hst.waits]; simp
  have hd1 : S.dead = false := hst.calm.dead
  have HD1 := Lib.hid hd1
  have HD2 : Hid (∀ i s, (S.wr i s).dead = false) := fun i s => (hst.calm.wr i s).dead
  clear hsame hg hkf hst hlen hoth hsub hfr HC0 hg0 hsf hsl hsr hst2 hd1 hmm HRs hn0
  have hap : ¬ RD p := by
    obtain ⟨lv, rv, hL⟩ := hW.l
    exact hW.apart p hL.rp
  have HW := Lib.hid hW
  obtain ⟨lv, rv, hL⟩ := hW.l
  obtain ⟨g, o, c, gr, c2, elv, _, _, _, hg, hRg⟩ := hL.rec_at 0 hl0
  subst elv
  obtain ⟨at_, hat⟩ : ∃ a, L.fin = a := ⟨_, rfl⟩
  have hatb : at_ < 18446744073709551616 := by rw [← hat]; exact hL.b4
  obtain ⟨n, hn⟩ : ∃ n, L.l.length = n := ⟨_, rfl⟩
  have hnc : n ≤ c := by
    rcases hL.own.2 with ⟨e, _⟩ | ⟨_, _, _, _, e, _, h5, _⟩
    · cases e
    · injection e with e1 e2 e3; omega
  have HNn := Lib.hid hn
  have HL := Lib.hid hL
  have HBk := Lib.hid hL.blk
  have hnn0 := hL.n0
  have hn1 := hL.n1
  have hs1 := hL.s1
  have hlife := hL.b6
  have hfits := hW.fits
  have HAt := Lib.hid hat
  rw [hn] at hl0 hll hgx HBk
  have hbk := HBk.out
  have x3 := hbk.cell 3
  have x6 := hbk.cell 6
  have x7 := hbk.cell 7
  have hp1 := hbk.lt
  simp only [List.getElem?_toArray, List.getElem?_cons_zero, List.getElem?_cons_succ] at x3 x6 x7
  rw [hat] at x7
  obtain ⟨t1, ht1⟩ : ∃ t, L.turn + 1 = t := ⟨_, rfl⟩
  have HT1 := Lib.hid ht1
  have hturn : t1 < 18446744073709551616 := by omega
  have et1 : (L.turn : Int) + 1 = (t1 : Int) := by omega
  obtain ⟨q, hq⟩ : ∃ q, t1 % 2 = q := ⟨_, rfl⟩
  have HQ := Lib.hid hq
  have hq2 : q < 2 := by omega
  have eq1 : (t1 : Int) % 2 = (q : Int) := by omega
  have hql : L.start + q < S.now.length := by omega
  have hmk : (m : Int) - (L.first : Int) = (n : Int) := by omega
  have HSn := Lib.hid hsn
  have hzw := HN.out.size
  clear hW hL hat hn hRg ht1 hq hbk hsn
  have u1 : (0 : Int) ≤ (n : Int) := by omega
  have u2 : ¬ ((n : Int) < (n : Int)) := by omega
  have u3 : ¬ m ≤ L.first := by omega
  go_wp2
  clear x3 x6 x7
  have hS : Fr RD w1 w1.drew := (Fr.refl _ w1).drew
  refine Rg.begin (Fr RD w1) [] (by kernel_rfl) ?_
  refine Rg.op 0 (some 55) hS (v := ?v0) (hy := fun wz hwz => ?h0) (h := ?_)
  case h0 => (go_simp; try with_reducible rfl)
  refine Rg.op 1 (some 56) hS (v := ?v1) (hy := fun wz hwz => ?h1) (h := ?_)
  case h1 => (have hb := (HBk.out.fr hwz hap); have c0 := hb.cell 0; have hp := hb.lt; simp only [List.getElem?_toArray, List.getElem?_cons_zero, List.getElem?_cons_succ] at c0; clear hb; go_simp; try with_reducible rfl)
  refine Rg.op 2 (some 57) hS (v := ?v2) (hy := fun wz hwz => ?h2) (h := ?_)
  case h2 => (go_simp; try with_reducible rfl)
  refine Rg.op 3 (some 58) hS (v := ?v3) (hy := fun wz hwz => ?h3) (h := ?_)
  case h3 => (have hb := (HBk.out.fr hwz hap); have c0 := hb.cell 0; have hp := hb.lt; simp only [List.getElem?_toArray, List.getElem?_cons_zero, List.getElem?_cons_succ] at c0; clear hb; go_simp; try with_reducible rfl)
  refine Rg.op 4 (some 59) hS (v := ?v4) (hy := fun wz hwz => ?h4) (h := ?_)
  case h4 => (go_simp; try with_reducible rfl)
  refine Rg.op 5 (some 60) hS (v := ?v5) (hy := fun wz hwz => ?h5) (h := ?_)
  case h5 => (have hb := (HBk.out.fr hwz hap); have c1 := hb.cell 1; have hp := hb.lt; simp only [List.getElem?_toArray, List.getElem?_cons_zero, List.getElem?_cons_succ] at c1; clear hb; go_simp; try with_reducible rfl)
  refine Rg.op 6 (some 61) hS (v := ?v6) (hy := fun wz hwz => ?h6) (h := ?_)
  case h6 => (go_simp; try with_reducible rfl)
  refine Rg.op 7 (some 62) hS (v := ?v7) (hy := fun wz hwz => ?h7) (h := ?_)
  case h7 => (have hb := (HBk.out.fr hwz hap); have c1 := hb.cell 1; have hp := hb.lt; simp only [List.getElem?_toArray, List.getElem?_cons_zero, List.getElem?_cons_succ] at c1; clear hb; go_simp; try with_reducible rfl)
  refine Rg.op 8 (some 63) hS (v := ?v8) (hy := fun wz hwz => ?h8) (h := ?_)
  case h8 => (go_simp; try with_reducible rfl)
  refine Rg.op 9 (some 64) hS (v := ?v9) (hy := fun wz hwz => ?h9) (h := ?_)
  case h9 => (have hb := (HBk.out.fr hwz hap); have c10 := hb.cell 10; have hp := hb.lt; simp only [List.getElem?_toArray, List.getElem?_cons_zero, List.getElem?_cons_succ] at c10; clear hb; go_simp; try with_reducible rfl)
  refine Rg.op 10 (some 65) hS (v := ?v10) (hy := fun wz hwz => ?h10) (h := ?_)
  case h10 => (go_simp; try with_reducible rfl)
  refine Rg.op 11 (some 66) hS (v := ?v11) (hy := fun wz hwz => ?h11) (h := ?_)
  case h11 => (have hb := (HBk.out.fr hwz hap); have c10 := hb.cell 10; have hp := hb.lt; simp only [List.getElem?_toArray, List.getElem?_cons_zero, List.getElem?_cons_succ] at c10; clear hb; go_simp; try with_reducible rfl)
  refine Rg.op 12 (some 67) hS (v := (.int .u64 t1)) (hy := fun wz hwz => ?h12) (h := ?_)
  case h12 => (have u1 : IntKind.u64.wrap (t1 : Int) = (t1 : Int) := (by rw [IntKind.wrap_u64]; omega); go_simp; try with_reducible rfl)
  refine Rg.op 13 (some 68) hS (v := (.int .u64 q)) (hy := fun wz hwz => ?h13) (h := ?_)
  case h13 => (have u2 : Int.tmod (t1 : Int) 2 = (q : Int) := (by rw [Int.tmod_eq_emod_of_nonneg (by omega)]; exact eq1); have u3 : IntKind.u64.wrap (q : Int) = (q : Int) := (by rw [IntKind.wrap_u64]; omega); go_simp; try with_reducible rfl)
  refine Rg.op 14 (some 69) hS (v := (.int .i64 q)) (hy := fun wz hwz => ?h14) (h := ?_)
  case h14 => (have u3 : IntKind.i64.wrap (q : Int) = (q : Int) := (by rw [IntKind.wrap_i64]; omega); go_simp; try with_reducible rfl)
  refine Rg.op 15 (some 70) hS (v := (.int .i64 ((L.start + q : Nat) : Int))) (hy := fun wz hwz => ?h15) (h := ?_)
  case h15 => (have u4 : IntKind.i64.wrap ((L.start : Int) + (q : Int)) = ((L.start + q : Nat) : Int) := (by rw [IntKind.wrap_i64]; omega); go_simp; try with_reducible rfl)
  refine Rg.op 16 (some 71) hS (v := ?v16) (hy := fun wz hwz => ?h16) (h := ?_)
  case h16 => (go_simp; try with_reducible rfl)
  refine Rg.op 17 (some 72) hS (v := ?v17) (hy := fun wz hwz => ?h17) (h := ?_)
  case h17 => (have hb := (HBk.out.fr hwz hap); have c10 := hb.cell 10; have hp := hb.lt; simp only [List.getElem?_toArray, List.getElem?_cons_zero, List.getElem?_cons_succ] at c10; clear hb; go_simp; try with_reducible rfl)
  refine Rg.op 18 (some 73) hS (v := ?v18) (hy := fun wz hwz => ?h18) (h := ?_)
  case h18 => (go_simp; try with_reducible rfl)
  refine Rg.op 19 (some 74) hS (v := ?v19) (hy := fun wz hwz => ?h19) (h := ?_)
  case h19 => (have hb := (HBk.out.fr hwz hap); have c10 := hb.cell 10; have hp := hb.lt; simp only [List.getElem?_toArray, List.getElem?_cons_zero, List.getElem?_cons_succ] at c10; clear hb; go_simp; try with_reducible rfl)
  refine Rg.op 20 (some 75) hS (v := (.int .u64 t1)) (hy := fun wz hwz => ?h20) (h := ?_)
  case h20 => (have u1 : IntKind.u64.wrap (t1 : Int) = (t1 : Int) := (by rw [IntKind.wrap_u64]; omega); go_simp; try with_reducible rfl)
  refine Rg.op 21 (some 76) hS (v := ?v21) (hy := fun wz hwz => ?h21) (h := ?_)
  case h21 => (go_simp; try with_reducible rfl)
  refine Rg.op 22 (some 77) hS (v := ?v22) (hy := fun wz hwz => ?h22) (h := ?_)
  case h22 => (go_simp; try with_reducible rfl)
  refine Rg.call 23 (some 78) (hrun := ?h23) (hcall := begin_any t1 m at_ w1.drew (by omega) (by omega) hatb) (h := ?_)
  case h23 => (go_simp)
  rintro e w2 ⟨rfl, hb2, hf2⟩
  have hf2' : Fr Nob w1 w2 := (Fr.refl Nob w1).drew.trans hf2
  have hS2 : Fr RD w1 w2 := hf2'.mono (fun _ _ h => h.elim)
  obtain ⟨g2, hg2⟩ : ∃ g2, w1.drew.heap.size = g2 := ⟨_, rfl⟩
  rw [hg2] at hb2 ⊢
  clear hg2
  have HR2 : Hid (Row64 w2 g2 (begB t1 m at_)) := hb2
  clear hb2 hf2
  refine ⟨_, ?a23, rfl, ?b23, (fun _ => hS2), ?_⟩
  case b23 => (simp only [Act.put, List.setIfInBounds_toArray, List.set_cons_zero, List.set_cons_succ]; rfl)
  refine Rg.call 24 (some 79) (hrun := ?h24) (hcall := Write_in (L.start + q) g2 64 _ (HW.out.d.new hf2') HD1.out hql (begB_length _ _ _) HR2.out (by omega)) (h := ?_)
  case h24 => (go_simp)
  rintro e w3 ⟨rfl, hd3, hf3⟩
  have hS3 : Fr RD w1 w3 := hS2.trans hf3.fr
  have HD3 := Lib.hid hd3
  have HF3 := Lib.hid hf3
  clear hd3 hf3
  refine ⟨_, ?a24, rfl, ?b24, (fun _ => hS3), ?_⟩
  case b24 => (simp only [Act.put, List.setIfInBounds_toArray, List.set_cons_zero, List.set_cons_succ]; rfl)
  refine Rg.op 25 (some 8) hS3 (v := ?v25) (hy := fun wz hwz => ?h25) (h := ?_)
  case h25 => (go_simp; try with_reducible rfl)
  refine Rg.done _ (h := ?_)
  have HFl := Lib.hid (Flush_any HD3.out (by rw [DS.wr_waits]; omega))
  have HB3 := Lib.hid (HBk.out.fr hS3 hap)
  have y0 := HB3.out.cell 0
  have hp3 := HB3.out.lt
  simp only [List.getElem?_toArray, List.getElem?_cons_zero, List.getElem?_cons_succ] at y0
  unfold DS.fcode at HFl
  rw [HD2.out] at HFl
  go_wp2_with fail
  refine HFl.out.mono ?_
  rintro e w4 ⟨rfl, hd4, hf4⟩
  have hz2 := hf2'.size
  have hz3 := HF3.out.size
  have hz4 := hf4.size
  have hF4 : Fr RD w1 w4 := by
    refine hS3.step hf4.fr (fun i hi h => ?_)
    rcases h with h | h
    · exact h
    · omega
  have HL4 := Lib.hid (HL.out.fr hF4 (fun b hb h => HW.out.apart b hb h))
  have HD4 := Lib.hid hd4
  have HN4 : Hid (Fr (fun b => R b ∨ RD0 b) w w4) := HN.out.step hF4 (fun i hi e => by
    rcases HSub.out i e with e | e
    · exact .inr e
    · omega)
  have hap4 : ∀ b, R b → ¬ Ext RD w2 w3 b := by
    rintro b hb (h | h)
    · exact HW.out.apart b hb h
    · have := HL.out.lt b hb; omega
  have HA4 := Lib.hid hap4
  have hp4 := HL4.out.blk.lt
  have z6 := HL4.out.blk.cell 6
  simp only [List.getElem?_toArray, List.getElem?_cons_zero, List.getElem?_cons_succ] at z6
  have hRp := HL4.out.rp
  clear hd4 hf4 hF4 HFl HB3 y0 hap4
  rw [HNn.out] at z6 HL4
  go_wp2
  go_loopw [11, 98] (fun _ i wr => ∃ j : Nat, j ≤ n ∧ i = .int .i64 j ∧ Hid (LogAt R wr p d (.slice (some ⟨g, o, none⟩) n c) rv { L with room := L.room + (sizes (L.rs.take j) : Int) }) ∧ Hid (DiskOk (Ext RD w2 w3) wr d (S.wr (L.start + q) (begB t1 m at_)).flushed) ∧ Hid (Fr (fun b => R b ∨ RD0 b) w wr)) (fun _ i _ => n - (intOf i).toNat)
  case atStart => exact ⟨0, Nat.zero_le _, rfl, by rw [List.take_zero, show sizes [] = 0 from rfl, show (((0 : Nat) : Int)) = 0 from rfl, Int.add_zero]; exact HL4, HD4, HN4⟩
  case round =>
    obtain ⟨j, hj, rfl, hLj, hDj, hNj⟩ := hrel
    have hszj : sizes (L.rs.take j) ≤ 2016 * 4000000 := by
      refine Nat.le_trans (sizes_bound _ (fun r hr => ?_)) (by rw [List.length_take, LS.rs_length, HNn.out]; omega)
      have hr1 := List.mem_of_mem_take hr
      unfold LS.rs at hr1
      obtain ⟨x, hx, rfl⟩ := List.mem_map.1 hr1
      exact HSm.out x hx
    by_cases hlt : j < n
    · have hjn : j < L.l.length := by rw [HNn.out]; omega
      have hs := sizes_takeS L j hjn
      have hsmj : L.l[j].1.length ≤ 2000 := HSm.out _ (List.getElem_mem hjn)
      have hrc := hLj.out.rec_at j hjn
      obtain ⟨g', o', c', gr, c2, elv, f0, f1, hrec, hg, _⟩ := hrc
      injection elv with ea eb ec
      injection ea with ea
      injection ea with ea1 ea2
      subst ea1 ea2 ec
      clear eb
      obtain ⟨b, hb⟩ : ∃ b, L.l[j].1.length = b := ⟨_, rfl⟩
      obtain ⟨a2, ha2⟩ : ∃ a, L.l[j].2 = a := ⟨_, rfl⟩
      have e0 : wr.cell? ⟨g, o + j * 2, none⟩ = some (.slice (some ⟨gr, 0, none⟩) b c2) := by rw [← hb]; exact f0
      have e1 : wr.cell? ⟨g, o + j * 2 + 1, none⟩ = some (.int .u64 a2) := by rw [← ha2]; exact f1
      rw [hb] at hs hsmj
      have HS := Lib.hid hs
      obtain ⟨ro, hro⟩ : ∃ ro, L.room + (sizes (L.rs.take j) : Int) = ro := ⟨_, rfl⟩
      have hro0 : -4611686018427387904 ≤ ro := by omega
      have hro1 : ro ≤ 4611686118427387904 := by omega
      have hsro : L.room + (sizes (L.rs.take (j + 1)) : Int) = ro + (16 + (b : Int)) := by omega
      have HSr := Lib.hid hsro
      rw [hro] at hLj
      clear hs hb ha2 hrec hro hsro z6 f0 f1
      go_wp2
      obtain ⟨wA, hA⟩ : ∃ wA, (wr.alloc (.cells #[.slice (some ⟨gr, 0, none⟩) b c2, .int .u64 a2] 140)) = wA := ⟨_, rfl⟩
      have hfA : Fr Nob wr wA := by rw [← hA]; exact (Fr.refl _ wr).alloc _
      have hbA : Blk wA wr.heap.size 140 #[.slice (some ⟨gr, 0, none⟩) b c2, .int .u64 a2] := by rw [← hA]; exact Blk.new _ _ _
      rw [hA]
      clear hA
      have HBA := Lib.hid hbA
      have HLA := Lib.hid (hLj.out.fr hfA (fun _ _ h => h))
      have HDA := Lib.hid (hDj.out.new hfA)
      have HNA := Lib.hid (hNj.out.trans (hfA.mono (fun _ _ h => h.elim)))
      have hpA := HLA.out.blk.lt
      have f11 := HLA.out.blk.frozen 11
      have c11 := HLA.out.blk.cell 11
      simp only [List.getElem?_toArray, List.getElem?_cons_zero, List.getElem?_cons_succ] at c11
      clear hbA e0 e1
      have hS : Fr Nob wA wA.drew := (Fr.refl _ wA).drew
      refine Rg.begin' (Fr Nob wA) [11] (by kernel_rfl) ?_
      refine Rg.op 0 (some 102) hS (v := ?v0l) (hy := fun wz hwz => ?h0l) (h := ?_)
      case h0l => (go_simp; try with_reducible rfl)
      refine Rg.op 1 (some 103) hS (v := ?v1l) (hy := fun wz hwz => ?h1l) (h := ?_)
      case h1l => (have hb := (HLA.out.blk.fr hwz (fun h => h)); have cc := hb.cell 11; have hpq := hb.lt; simp only [List.getElem?_toArray, List.getElem?_cons_zero, List.getElem?_cons_succ] at cc; clear hb; go_simp; try with_reducible rfl)
      refine Rg.op 2 (some 104) hS (v := ?v2l) (hy := fun wz hwz => ?h2l) (h := ?_)
      case h2l => (go_simp; try with_reducible rfl)
      refine Rg.op 3 (some 105) hS (v := ?v3l) (hy := fun wz hwz => ?h3l) (h := ?_)
      case h3l => (have hb := (HLA.out.blk.fr hwz (fun h => h)); have cc := hb.cell 11; have hpq := hb.lt; simp only [List.getElem?_toArray, List.getElem?_cons_zero, List.getElem?_cons_succ] at cc; clear hb; go_simp; try with_reducible rfl)
      refine Rg.op 4 (some 106) hS (v := ?v4l) (hy := fun wz hwz => ?h4l) (h := ?_)
      case h4l => (go_simp; try with_reducible rfl)
      refine Rg.op 5 (some 107) hS (v := ?v5l) (hy := fun wz hwz => ?h5l) (h := ?_)
      case h5l => (have hb := (HBA.out.fr hwz (fun h => h)); have cr := hb.cell 0; simp only [List.getElem?_toArray, List.getElem?_cons_zero, List.getElem?_cons_succ] at cr; clear hb; go_simp; try with_reducible rfl)
      refine Rg.op 6 (some 108) hS (v := ?v6l) (hy := fun wz hwz => ?h6l) (h := ?_)
      case h6l => (go_simp; try with_reducible rfl)
      refine Rg.op 7 (some 109) hS (v := ?v7l) (hy := fun wz hwz => ?h7l) (h := ?_)
      case h7l => (have u3 : IntKind.i64.wrap (16 + (b : Int)) = 16 + (b : Int) := (by rw [IntKind.wrap_i64]; omega); go_simp; try with_reducible rfl)
      refine Rg.op 8 (some 110) hS (v := (.int .i64 (ro + (16 + (b : Int))))) (hy := fun wz hwz => ?h8l) (h := ?_)
      case h8l => (have u4 : IntKind.i64.wrap (ro + (16 + (b : Int))) = ro + (16 + (b : Int)) := (by rw [IntKind.wrap_i64]; omega); go_simp; try with_reducible rfl)
      refine Rg.op 9 (some 111) hS (v := ?v9l) (hy := fun wz hwz => ?h9l) (h := ?_)
      case h9l => (go_simp; try with_reducible rfl)
      refine Rg.op 10 (some 112) hS (v := ?v10l) (hy := fun wz hwz => ?h10l) (h := ?_)
      case h10l => (go_simp; try with_reducible rfl)
      refine Rg.store 11 (w' := (wA.drew.setCell ⟨p, 11, none⟩ (.int .i64 (ro + (16 + (b : Int)))))) (hrun := ?h11l) (hS := (fun h => absurd (by decide) h)) (h := ?_)
      case h11l => (go_simp; try with_reducible rfl)
      refine Rg.done _ (h := ?_)
      have hfS : Fr (fun x => x = p) wA (wA.drew.setCell ⟨p, 11, none⟩ (.int .i64 (ro + (16 + (b : Int))))) := (Fr.refl (fun x => x = p) wA).drew.setCell (p := ⟨p, 11, none⟩) (.inr rfl) _
      have HLS : Hid (LogAt R (wA.drew.setCell ⟨p, 11, none⟩ (.int .i64 (ro + (16 + (b : Int))))) p d (.slice (some ⟨g, o, none⟩) n c) rv { L with room := L.room + (sizes (L.rs.take (j + 1)) : Int) }) := by
        have hx := HLA.out
        rw [Hid, HSr.out]
        exact hx.upd hfS _ _ _ _ _ _ _ _ hx.b1 hx.b2 hx.b3 hx.b4 hx.b5 hx.b6 hx.b7 (hx.blk.drew.set_ 11 _)
      have HDS := Lib.hid (HDA.out.fr hfS (fun b hb e => HA4.out p hRp (by subst e; exact hb)))
      have HNS := Lib.hid (HNA.out.trans (hfS.mono (fun b _ hb => .inl ((show b = p from hb) ▸ hRp))))
      obtain ⟨wS, hwS⟩ : ∃ wS, wA.drew.setCell ⟨p, 11, none⟩ (.int .i64 (ro + (16 + (b : Int)))) = wS := ⟨_, rfl⟩
      rw [hwS] at HLS HDS HNS ⊢
      clear hwS hfS
      go_wp2
      go_roundw
      case rel => exact ⟨j + 1, by omega, by go_num, HLS, HDS, HNS⟩
      case measure => simp [intOf]; omega
    · obtain rfl : j = n := by omega
      have hbk := hLj.out.blk
      have v10 := hbk.cell 10
      have v6 := hbk.cell 6
      have v3 := hbk.cell 3
      have q10 := hbk.frozen 10
      have q6 := hbk.frozen 6
      have q3 := hbk.frozen 3
      have hpr := hbk.lt
      simp only [List.getElem?_toArray, List.getElem?_cons_zero, List.getElem?_cons_succ] at v10 v6 v3
      have u1 : IntKind.u64.wrap (t1 : Int) = (t1 : Int) := by rw [IntKind.wrap_u64]; omega
      have HBr := Lib.hid hbk
      have hfin : ∀ (o2 c2 : Nat) (wE : World), o2 + c2 * 2 ≤ o + c * 2 → c2 ≤ c → ((wr.setCell ⟨p, 10, none⟩ (.int .u64 (t1 : Int))).setCell ⟨p, 6, none⟩ (.slice (some ⟨g, o2, none⟩) 0 c2)).setCell ⟨p, 3, none⟩ (.int .u64 (m : Int)) = wE →
          ∃ L' S' RD', WalIn wE p d L' S' R RD' ∧ LSame L0.cutA L' ∧ LogGood L' N ∧ Still S' ∧ S'.now.length = S0.now.length ∧ (∀ j, (j < L0.start ∨ L0.start + L0.n ≤ j) → S'.now[j]? = S0.now[j]?) ∧ (∀ b, RD' b → RD0 b ∨ w.heap.size ≤ b) ∧ Fr (fun b => R b ∨ RD0 b) w wE := by
        intro o2 c2 wE ho2 hc2 hE
        have hcut := LogAt.cutA (W := wE) hLj.out o2 c2 ho2 hc2 (by show L.next < _; rw [HSn.out]; exact hm64) (by show L.turn + 1 < _; rw [HT1.out]; exact hturn) (by rw [← hE]; show _ = ((wr.setCell _ (.int .u64 ((L.turn + 1 : Nat) : Int))).setCell _ _).setCell _ (.int .u64 (L.next : Int)); rw [HT1.out, HSn.out])
        have htk : L.rs.take j = L.rs := List.take_of_length_le (by rw [LS.rs_length, HNn.out]; omega)
        have hlog : LogAt R wE p d (.slice (some ⟨g, o2, none⟩) 0 c2) [] L.cutA := by
          have := hcut.1
          rw [htk] at this
          exact this
        have hcw := HSt.out.calm.wr (L.start + q) (begB t1 m at_)
        have e1 : (S.wr (L.start + q) (begB t1 m at_)).flushed.now = S.now.set (L.start + q) (begB t1 m at_) := by rw [hcw.flushed_eq]; exact HSt.out.calm.wr_now _ _
        have e3 : (S.wr (L.start + q) (begB t1 m at_)).flushed.now.length = S.now.length := by rw [e1, List.length_set]
        refine ⟨_, _, Ext RD w2 w3, ⟨⟨_, _, hlog⟩, hDj.out.fr hcut.2 (fun b hb e => HA4.out p hRp (by subst e; exact hb)), HA4.out, by rw [e3]; exact hfits⟩, HSame.out.cutA, HCut.out, ⟨hcw.flushed, by rw [hcw.flushed_eq]⟩, e3.trans HLen.out, fun i hi => ?_, ?_, hNj.out.trans (hcut.2.mono (fun b _ hb => .inl ((show b = p from hb) ▸ hRp)))⟩
        · rw [e1, List.getElem?_set_ne (by have := HSame.out.start; have := HSame.out.n; omega)]
          exact HOth.out i hi
        · rintro b (h | h)
          · exact HSub.out b h
          · omega
      have HFin := Lib.hid hfin
      clear hbk z6 hfin
      by_cases hcj : c = j
      · subst hcj
        go_wp2
        obtain ⟨wE, hE⟩ : ∃ wE, ((wr.setCell ⟨p, 10, none⟩ (.int .u64 (t1 : Int))).setCell ⟨p, 6, none⟩ (.slice (some ⟨g, o, none⟩) 0 0)).setCell ⟨p, 3, none⟩ (.int .u64 (m : Int)) = wE := ⟨_, rfl⟩
        go_ret
        rw [hE]
        exact ⟨rfl, HFin.out o 0 wE (by omega) (by omega) hE⟩
      · go_wp2
        obtain ⟨wE, hE⟩ : ∃ wE, ((wr.setCell ⟨p, 10, none⟩ (.int .u64 (t1 : Int))).setCell ⟨p, 6, none⟩ (.slice (some ⟨g, o + j * 2, none⟩) 0 (c - j))).setCell ⟨p, 3, none⟩ (.int .u64 (m : Int)) = wE := ⟨_, rfl⟩
        go_ret
        rw [hE]
        exact ⟨rfl, HFin.out (o + j * 2) (c - j) wE (by omega) (by omega) hE⟩
end Go.Proofs.YtfapklpcgcgahaaGreatDoor
