/-
  PoolFl1, TxnCheck, TxnBegC, TxnTB2, TxnW5, in one text.
-/
import Derived.Test.YtfapklpcgcgahaaGreatDoorMg38
import Derived.Test.YtfapklpcgcgahaaGreatDoorMg27
import Derived.Test.YtfapklpcgcgahaaGreatDoorMg33
import Derived.Test.YtfapklpcgcgahaaGreatDoorMg36
import Derived.Test.YtfapklpcgcgahaaGreatDoorMg34
/-
  Flush and what is in the file behind it, on a pool.
-/
namespace Go.Proofs.YtfapklpcgcgahaaGreatDoor
set_option linter.unusedSimpArgs false
set_option linter.unusedVariables false
open Go.RowKit Go.Maps

section
variable {U : Nat → Prop} {w w' : World} {p f l d pages : Nat} {frames : Int} {V : Nat → PgV} {L : LS} {M N : Nat} {Dt : Nat → Prop}
theorem PoolOk.flush (h : PoolOk U w p f l d pages frames V L M N Dt) (hM : M + 8 ≤ 1000000000000000000) :
    Calls Tryz.prog 71 #[.pointer (some ⟨p, 0, none⟩)] w fun e w' => e = .returned (.int .i64 0) ∧ ∃ U', PoolOk U' w' p f l d pages frames V L (M + 8) N (fun _ => False) ∧ (∀ b, U' b → U b ∨ w.heap.size ≤ b) ∧ Fr U w w' := by
  obtain ⟨RP, RQ, RL, RD, hand, B, rv, fs, cur, S, T, lot, L', h1, h2, h3, h4⟩ := h
  refine (Flush_pin h1 hM).mono ?_
  rintro e w' ⟨rfl, L2, S2, T2, lot2, RD2, fs2, cur2, hin, hs, hcl, hsub, hf⟩
  refine ⟨rfl, Uni RP RQ RL RD2 f, ⟨RP, RQ, RL, RD2, hand, B, rv, fs2, cur2, S2, T2, lot2, L2, hin, h2.trans hs, fun b hb => hb, fun y hy hd => by rw [hcl y hy] at hd; cases hd⟩, fun b hb => ?_, hf.mono (fun b _ hb => h3 b hb)⟩
  rcases hb with hb | hb | hb | hb | hb
  · exact .inl (h3 b (.inl hb))
  · exact .inl (h3 b (.inr (.inl hb)))
  · exact .inl (h3 b (.inr (.inr (.inl hb))))
  · rcases hsub b hb with e | e
    · exact .inl (h3 b (.inr (.inr (.inr (.inl e)))))
    · exact .inr e
  · exact .inl (h3 b (.inr (.inr (.inr (.inr hb)))))
theorem PoolOk.read (h : PoolOk U w p f l d pages frames V L M N (fun _ => False)) (no : Nat) (hno : no < pages) :
    Calls Tryz.prog 74 #[.pointer (some ⟨f, 0, none⟩), .int .i64 no] w fun e w' => ∃ g o, e = .returned (.tuple #[.agg #[.int .i64 no, .int .u64 (V no).lsn, .slice (some ⟨g, o, none⟩) 480 480], .int .i64 0]) ∧ BytesIn w' (some ⟨g, o, none⟩) (V no).d ∧ w.heap.size ≤ g ∧ Fr Nob w w' := by
  obtain ⟨RP, RQ, RL, RD, hand, B, rv, fs, cur, S, T, lot, L', h1, h2, h3, h4⟩ := h
  have hfile : pgOf (cur no) no = V no := h1.views.file no hno (fun y hy e => by
    cases hd : y.2.dirty
    · rfl
    · exact (h4 y hy hd).elim)
  have := h1.und.read no hno
  rw [hfile] at this
  refine this.mono ?_
  rintro e w' ⟨g, o, rfl, hb, h5, h6, h7, h8⟩
  exact ⟨g, o, rfl, hb.h, h7, h8⟩
end
end Go.Proofs.YtfapklpcgcgahaaGreatDoor

/-
  Checkpoint: the pages are in their file, the log has no record; Begin, whatever room there is; Evict.
-/
namespace Go.Proofs.YtfapklpcgcgahaaGreatDoor
set_option linter.unusedSimpArgs false
set_option linter.unusedVariables false
open Go.RowKit Go.Maps

section
variable {w w' : World} {f l d pages : Nat} {cur : Nat → Option PgV} {L : LS} {S : DS} {T : Nat} {lot : List PgV} {RL RD F : Nat → Prop} {N : Nat}
/-- All records are cut. -/
theorem Und.cutA (h : Und w f l d pages cur L S T lot RL RD N) (hl : 0 < L.l.length) (hr0 : 0 ≤ L.room) (hrs : L.room + (sizes L.rs : Int) ≤ 2000000) :
    Calls Tryz.prog 72 #[.pointer (some ⟨l, 0, none⟩), .int .u64 (L.next : Int)] w fun e w' => e = .returned (.int .i64 0) ∧ ∃ L' S' RD', Und w' f l d pages cur L' S' T lot RL RD' N ∧ LSame L.cutA L' ∧ (∀ b, RD' b → RD b ∨ w.heap.size ≤ b) ∧ Fr (fun b => RL b ∨ RD b) w w' := by
  refine (Cut_all h.wal h.good h.still h.n16 hl hr0 hrs).mono ?_
  rintro e w' ⟨rfl, L', S', RD', hw, hs, hg, hst, hlen, hag, hsub, hf⟩
  have hln := h.ps.len
  have hs1 : L'.start = L.start := hs.start
  have hs2 : L'.n = L.n := hs.n
  refine ⟨rfl, L', S', RD', ?_, hs, hsub, hf⟩
  exact { h with
    file := h.file.fr hf (fun e => by
      rcases e with e | e
      · exact (h.ap3 f e).2 rfl
      · exact h.ap4 e)
    log := hw.l
    disk := hw.d
    still := hst
    ps := h.ps.agree (fun j s hj => hw.d.len64 hj) hlen (fun j _ hj => hag j (.inl (by have := h.fit1; omega)))
    good := hg
    fit1 := by rw [hs1]; exact h.fit1
    fit2 := by rw [hs1, hs2, hlen]; exact h.fit2
    n16 := by rw [hs2]; exact h.n16
    ap3 := fun b hb => ⟨fun hd => hw.apart b hb hd, (h.ap3 b hb).2⟩
    ap4 := fun hd => by
      rcases hsub f hd with e | e
      · exact h.ap4 e
      · have := h.flt; omega }
end
section
variable {U : Nat → Prop} {w w' : World} {p f l d pages : Nat} {frames : Int} {V : Nat → PgV} {L : LS} {M N : Nat} {Dt : Nat → Prop}
theorem PoolOk.cutA (h : PoolOk U w p f l d pages frames V L M N Dt) (hl : 0 < L.l.length) (hr0 : 0 ≤ L.room) (hrs : L.room + (sizes L.rs : Int) ≤ 2000000) :
    Calls Tryz.prog 72 #[.pointer (some ⟨l, 0, none⟩), .int .u64 (L.next : Int)] w fun e w' => e = .returned (.int .i64 0) ∧ ∃ U', PoolOk U' w' p f l d pages frames V L.cutA M N Dt ∧ (∀ b, U' b → U b ∨ w.heap.size ≤ b) ∧ Fr U w w' := by
  obtain ⟨RP, RQ, RL, RD, hand, B, rv, fs, cur, S, T, lot, L', h1, h2, h3, h4⟩ := h
  have hc := h1.und.cutA (by rw [h2.l]; exact hl) (by rw [h2.room]; exact hr0) (by rw [h2.room]; unfold LS.rs; rw [h2.l]; exact hrs)
  rw [h2.next] at hc
  refine hc.mono ?_
  rintro e w' ⟨rfl, L2, S2, RD2, hu, hs, hsub, hf⟩
  refine ⟨rfl, Uni RP RQ RL RD2 f, ⟨RP, RQ, RL, RD2, hand, B, rv, fs, cur, S2, T, lot, L2, { h1 with
    pool := h1.pool.fr hf (fun x hx e => by
      have h5 := h1.ap x (.inl hx)
      exact e.elim h5.1 h5.2.1) (fun x hx e => by
      have h5 := h1.ap x (.inr hx)
      exact e.elim h5.1 h5.2.1)
    und := hu
    ap := fun x hx => ⟨(h1.ap x hx).1, fun e => by
      rcases hsub x e with e | e
      · exact (h1.ap x hx).2.1 e
      · rcases hx with hx | hx
        · have := h1.pool.lt x hx; omega
        · have := h1.pool.ltq x hx; omega, (h1.ap x hx).2.2⟩ }, h2.cutA.trans hs, fun b hb => hb, h4⟩, fun b hb => ?_, hf.mono (fun b _ e => e.elim (fun e => h3 b (.inr (.inr (.inl e)))) (fun e => h3 b (.inr (.inr (.inr (.inl e))))))⟩
  rcases hb with hb | hb | hb | hb | hb
  · exact .inl (h3 b (.inl hb))
  · exact .inl (h3 b (.inr (.inl hb)))
  · exact .inl (h3 b (.inr (.inr (.inl hb))))
  · rcases hsub b hb with e | e
    · exact .inl (h3 b (.inr (.inr (.inr (.inl e)))))
    · exact .inr e
  · exact .inl (h3 b (.inr (.inr (.inr (.inr hb)))))
end
section
variable {RS RO U : Nat → Prop} {w w' : World} {s pages M K : Nat} {T : TS}
theorem TxIn.sum2 (h : TxIn RS RO U w s pages M K T) : T.L.room + (sizes T.L.rs : Int) = 48 * ((T.L.n : Int) - 8) := by
  have h1 := h.sum
  have e : sizes T.L.rs = (T.L.l.map fun x => 16 + x.1.length).sum := by unfold sizes LS.rs; rw [List.map_map]; rfl
  rw [e]; exact h1
theorem TxIn.cutA (h : TxIn RS RO U w s pages M K T) {U' : Nat → Prop} {M' : Nat} {Dt' : Nat → Prop} (hok : PoolOk U' w' T.p T.f T.l T.d pages T.frames T.V T.L.cutA M' K Dt') (hs : ∀ b, U' b → U b ∨ w.heap.size ≤ b) (hf : Fr U w w') :
    TxIn RS RO (fun b => U' b ∧ b < w'.heap.size) w' s pages M' K { T with L := T.L.cutA } := by
  have h1 : ∀ b, RS b → ¬ U b := fun b hb => (h.ap b hb).2
  exact { h with
    blk := h.blk.fr hf (h1 _ h.rs)
    pool := hok.trim.dmono (fun _ _ => trivial)
    chg := own_fr h.chg hf (fun g hg => h1 _ (h.rc g hg))
    sav := own_fr h.sav hf (fun g hg => h1 _ (h.rv g hg))
    old := fun x hx => ⟨(h.old x hx).1, (h.old x hx).2.1.fr hf (fun a ha => by injection ha with ha; subst ha; exact h.ap2 _ (h.old x hx).1), (h.old x hx).2.2⟩
    ap := fun b hb => ⟨(h.ap b hb).1, fun e => by
      rcases hs b e.1 with e | e
      · exact h1 b hb e
      · have := h.lts b hb; omega⟩
    ap2 := fun b hb e => by
      rcases hs b e.1 with e | e
      · exact h.ap2 b hb e
      · have := h.lto b hb; omega
    lts := fun b hb => Nat.lt_of_lt_of_le (h.lts b hb) hf.size
    lto := fun b hb => Nat.lt_of_lt_of_le (h.lto b hb) hf.size
    ltu := fun b hb => hb.2
    sum := by
      have h2 := h.sum2
      show T.L.room + (sizes T.L.rs : Int) + ((0 : Nat) : Int) = 48 * ((T.L.n : Int) - 8)
      omega }
set_option maxHeartbeats 3200000 in
set_option maxRecDepth 100000 in
theorem Check_tx (h : TxIn RS RO U w s pages M K T) (hbz : T.busy = false) (hl : 0 < T.L.l.length) (hr0 : 0 ≤ T.L.room) (hn : T.L.n ≤ 32768) (hM : M + 8 ≤ 1000000000000000000) :
    Calls Tryz.prog 41 #[.pointer (some ⟨s, 0, none⟩)] w fun e w' => e = .returned (.int .i64 0) ∧ ∃ U', TxIn RS RO U' w' s pages (M + 8) K { T with L := T.L.cutA } ∧ Subs RS RS RO RO U U' w w' := by
  have HFl := Lib.hid (h.pool.flush hM)
  have HIn := Lib.hid h
  have hsum := h.sum2
  have hbig : T.L.room + (sizes T.L.rs : Int) ≤ 2000000 := by omega
  have HBig := Lib.hid hbig
  have c1 := h.cell 1
  have c4 := h.cell 4
  have zs := h.blk.lt
  simp only [TS.cells, List.getElem?_toArray, List.getElem?_cons_zero, List.getElem?_cons_succ, hbz] at c1 c4
  clear h hsum hbig hn hbz
  go_enter Tryz.func41, Tryz.ntmps41
  go_wp2_with fail
  refine HFl.out.mono ?_
  rintro e w1 ⟨rfl, U1, hok1, hsub1, hf1⟩
  have h1 := HIn.out.step hok1 hsub1 hf1
  have HF1 := Lib.hid hf1
  have HSub1 := Lib.hid hsub1
  have H1 := Lib.hid h1
  have hap1 : ¬ (U1 s ∧ s < w1.heap.size) := (h1.ap s h1.rs).2
  have z1 := h1.blk.lt
  clear c1 c4 zs HFl hok1 hsub1 hf1 h1
  go_wp2
  have hSn : Fr Nob w1 w1.drew := (Fr.refl _ w1).drew
  have hS : Fr (fun b => U1 b ∧ b < w1.heap.size) w1 w1.drew := hSn.mono (fun _ _ h => h.elim)
  refine Rg.begin (Fr (fun b => U1 b ∧ b < w1.heap.size) w1) [] (by kernel_rfl) ?_
  refine Rg.op 0 (some 16) hS (v := ?v0) (hy := fun wz hwz => ?h0) (h := ?_)
  case h0 => (go_simp; try with_reducible rfl)
  refine Rg.op 1 (some 17) hS (v := ?v1) (hy := fun wz hwz => ?h1) (h := ?_)
  case h1 => (have hb := (H1.out.blk.fr hwz hap1); have c2 := hb.cell 2; have hp := hb.lt; simp only [TS.cells, List.getElem?_toArray, List.getElem?_cons_zero, List.getElem?_cons_succ] at c2; clear hb; go_simp; try with_reducible rfl)
  refine Rg.op 2 (some 18) hS (v := ?v2) (hy := fun wz hwz => ?h2) (h := ?_)
  case h2 => (have hb := (H1.out.blk.fr hwz hap1); have c2 := hb.cell 2; have hp := hb.lt; simp only [TS.cells, List.getElem?_toArray, List.getElem?_cons_zero, List.getElem?_cons_succ] at c2; clear hb; go_simp; try with_reducible rfl)
  refine Rg.op 3 (some 19) hS (v := ?v3) (hy := fun wz hwz => ?h3) (h := ?_)
  case h3 => (have hb := (H1.out.blk.fr hwz hap1); have c2 := hb.cell 2; have hp := hb.lt; simp only [TS.cells, List.getElem?_toArray, List.getElem?_cons_zero, List.getElem?_cons_succ] at c2; clear hb; go_simp; try with_reducible rfl)
  refine Rg.op 4 (some 20) hS (v := ?v4) (hy := fun wz hwz => ?h4) (h := ?_)
  case h4 => (go_simp; try with_reducible rfl)
  refine Rg.op 5 (some 21) hS (v := ?v5) (hy := fun wz hwz => ?h5) (h := ?_)
  case h5 => (have hb := (H1.out.blk.fr hwz hap1); have c2 := hb.cell 2; have hp := hb.lt; simp only [TS.cells, List.getElem?_toArray, List.getElem?_cons_zero, List.getElem?_cons_succ] at c2; clear hb; go_simp; try with_reducible rfl)
  refine Rg.op 6 (some 22) hS (v := ?v6) (hy := fun wz hwz => ?h6) (h := ?_)
  case h6 => (have hb := (H1.out.blk.fr hwz hap1); have c2 := hb.cell 2; have hp := hb.lt; simp only [TS.cells, List.getElem?_toArray, List.getElem?_cons_zero, List.getElem?_cons_succ] at c2; clear hb; go_simp; try with_reducible rfl)
  refine Rg.op 7 (some 23) hS (v := ?v7) (hy := fun wz hwz => ?h7) (h := ?_)
  case h7 => (have hb := (H1.out.blk.fr hwz hap1); have c2 := hb.cell 2; have hp := hb.lt; simp only [TS.cells, List.getElem?_toArray, List.getElem?_cons_zero, List.getElem?_cons_succ] at c2; clear hb; go_simp; try with_reducible rfl)
  have hnx := (H1.out.new hSn).pool.next
  have HNx := Lib.hid hnx
  clear hnx
  refine Rg.call 8 (some 24) (hrun := ?h8) (hcall := HNx.out) (h := ?_)
  case h8 => (go_simp)
  rintro e w2 ⟨rfl, rfl⟩
  refine ⟨_, ?a8, rfl, ?b8, (fun _ => hS), ?_⟩
  case b8 => (simp only [Act.put, List.setIfInBounds_toArray, List.set_cons_zero, List.set_cons_succ]; rfl)
  have hcu := (H1.out.new hSn).pool.cutA hl hr0 HBig.out
  have HCu := Lib.hid hcu
  clear hcu
  refine Rg.call 9 (some 25) (hrun := ?h9) (hcall := HCu.out) (h := ?_)
  case h9 => (go_simp)
  rintro e w3 ⟨rfl, U3, hok3, hsub3, hf3⟩
  have hS3 : Fr (fun b => U1 b ∧ b < w1.heap.size) w1 w3 := hS.trans hf3
  have h3 := (H1.out.new hSn).cutA hok3 hsub3 hf3
  have H3 := Lib.hid h3
  have HF3 := Lib.hid hf3
  have HSub3 := Lib.hid hsub3
  clear hok3 hsub3 hf3 h3
  refine ⟨_, ?a9, rfl, ?b9, (fun _ => hS3), ?_⟩
  case b9 => (simp only [Act.put, List.setIfInBounds_toArray, List.set_cons_zero, List.set_cons_succ]; rfl)
  refine Rg.op 10 (some 2) hS3 (v := ?v10) (hy := fun wz hwz => ?h10) (h := ?_)
  case h10 => (go_simp; try with_reducible rfl)
  refine Rg.done _ (h := ?_)
  go_wp2
  go_ret
  refine ⟨rfl, _, H3.out, fun b hb => .inl hb, fun b hb => .inl hb, fun b hb => ?_, ?_⟩
  · have hz1 := HF1.out.size
    rcases HSub3.out b hb.1 with e | e
    · exact HSub1.out b e.1
    · have e : w1.heap.size ≤ b := e
      exact .inr (by omega)
  · refine (HF1.out.mono (fun b _ e => .inr e)).step (hSn.mono (fun _ _ h => h.elim) |>.trans HF3.out) (fun i hi e => ?_)
    rcases HSub1.out i e.1 with e | e
    · exact .inr e
    · omega
set_option maxHeartbeats 3200000 in
set_option maxRecDepth 100000 in
theorem Evict_tx (h : TxIn RS RO U w s pages M K T) (no : Nat) (hno : no < pages) (hM : M + 1 ≤ 1000000000000000000) :
    Calls Tryz.prog 18 #[.pointer (some ⟨s, 0, none⟩), .int .i64 no] w fun e w' => e = .returned (.int .i64 0) ∧ ∃ U', TxIn RS RO U' w' s pages (M + 1) K T ∧ Subs RS RS RO RO U U' w w' := by
  have HEv := Lib.hid (h.pool.evict no hno hM)
  have HIn := Lib.hid h
  have c1 := h.cell 1
  have zs := h.blk.lt
  simp only [TS.cells, List.getElem?_toArray, List.getElem?_cons_zero, List.getElem?_cons_succ] at c1
  clear h
  go_enter Tryz.func18, Tryz.ntmps18
  go_wp2_with fail
  refine HEv.out.mono ?_
  rintro e w1 ⟨rfl, U1, hok1, hsub1, hf1⟩
  have h1 := HIn.out.step hok1 hsub1 hf1
  have HF1 := Lib.hid hf1
  have HSub1 := Lib.hid hsub1
  have H1 := Lib.hid h1
  clear hok1 hsub1 hf1 h1 c1
  go_wp2
  go_ret
  exact ⟨rfl, _, H1.out, fun b hb => .inl hb, fun b hb => .inl hb, fun b hb => HSub1.out b hb.1, HF1.out.mono (fun b _ e => .inr e)⟩
end
end Go.Proofs.YtfapklpcgcgahaaGreatDoor

/-
  Begin, where the log has not room enough: all records are cut.
-/
namespace Go.Proofs.YtfapklpcgcgahaaGreatDoor
set_option linter.unusedSimpArgs false
set_option linter.unusedVariables false
open Go.RowKit Go.Maps

section
variable {RS RO U : Nat → Prop} {w : World} {s pages M K : Nat} {T : TS}
set_option maxHeartbeats 3200000 in
set_option maxRecDepth 100000 in
theorem Begin_ck (h : TxIn RS RO U w s pages M K T) (hbz : T.busy = false) (hroom : T.L.room < 48 * ((T.L.n : Int) - 8) - 48 * ((T.L.n : Int) - 8) / 16) (hr0 : 0 ≤ T.L.room) (hn : T.L.n ≤ 32768) (hM : M + 8 ≤ 1000000000000000000) :
    Calls Tryz.prog 15 #[.pointer (some ⟨s, 0, none⟩)] w fun e w' => e = .returned (.int .i64 0) ∧ ∃ RS' U', TxIn RS' RO U' w' s pages (M + 8) K { T with L := T.L.cutA, busy := true, cv := .slice none 0 0, sv := .slice none 0 0, cms := [], ss := [], last := 0 } ∧ Subs RS RS' RO RO U U' w w' := by
  have HDead := Lib.hid h.pool.dead
  have hn16 := h.n16
  have hl : 0 < T.L.l.length := by
    have h1 := h.sum
    rcases Nat.eq_zero_or_pos T.L.l.length with e | e
    · rw [List.length_eq_zero_iff.1 e] at h1
      simp only [List.map_nil, List.sum_nil] at h1
      omega
    · exact e
  have HCk : Hid (∀ k, Calls Tryz.prog 41 #[.pointer (some ⟨s, 0, none⟩)] (w.drewN k) fun e w' => e = .returned (.int .i64 0) ∧ ∃ U', TxIn RS RO U' w' s pages (M + 8) K { T with L := T.L.cutA } ∧ Subs RS RS RO RO U U' (w.drewN k) w') := fun k => Check_tx (h.new ((Fr.refl _ w).drewN k)) hbz hl hr0 hn hM
  have HRoom : Hid (∀ k, Calls Tryz.prog 39 #[.pointer (some ⟨T.l, 0, none⟩)] (w.drewN k) fun e w' => e = .returned (.int .i64 T.L.room) ∧ w.drewN k = w') := fun k => (h.pool.new ((Fr.refl _ w).drewN k)).room
  have HSize : Hid (∀ k, Calls Tryz.prog 40 #[.pointer (some ⟨T.l, 0, none⟩)] (w.drewN k) fun e w' => e = .returned (.int .i64 (48 * ((T.L.n : Int) - 8))) ∧ w.drewN k = w') := fun k => (h.pool.new ((Fr.refl _ w).drewN k)).size
  obtain ⟨sz, hsz⟩ : ∃ z : Nat, 48 * ((T.L.n : Int) - 8) = (z : Int) := ⟨(48 * (T.L.n - 8)), by omega⟩
  have hszb : sz ≤ 2000000 := by omega
  rw [hsz] at hroom HSize
  obtain ⟨rm, hrme⟩ : ∃ z : Nat, T.L.room = (z : Int) := ⟨T.L.room.toNat, by omega⟩
  rw [hrme] at hroom HRoom
  have e16 : Int.tdiv (sz : Int) 16 = (sz : Int) / 16 := by rw [Int.tdiv_eq_ediv_of_nonneg (by omega)]
  obtain ⟨q16, hq16⟩ : ∃ q : Nat, (sz : Int) / 16 = (q : Int) := ⟨sz / 16, by omega⟩
  rw [hq16] at hroom e16
  have hqb : (q16 : Int) ≤ sz := by omega
  have HIn := Lib.hid h
  have c0 := h.cell 0
  have c2 := h.cell 2
  have c4 := h.cell 4
  have zs := h.blk.lt
  simp only [TS.cells, List.getElem?_toArray, List.getElem?_cons_zero, List.getElem?_cons_succ, hbz] at c0 c2 c4
  clear h hsz hrme hbz hn16 hq16 hr0
  go_enter Tryz.func15, Tryz.ntmps15
  go_wp2_with fail
  refine HDead.out.mono ?_
  rintro e w0 ⟨rfl, rfl⟩
  go_wp2_with fail
  go_quiet ((first | (go_at_call 39; exact quiet_eq (HRoom.out _)) | (go_at_call 40; exact quiet_eq (HSize.out _))))
  have hck := HCk.out nq
  have hfq : Fr Nob w (w.drewN nq) := (Fr.refl _ w).drewN nq
  have hcs := HIn.out.new hfq
  have z1 := hcs.blk.lt
  generalize w.drewN nq = w1 at *
  have HFq := Lib.hid hfq
  have HC := Lib.hid hck
  clear hfq hck hcs HRoom HSize HDead HCk c0 c2 c4 zs
  go_wp2_with fail
  refine HC.out.mono ?_
  rintro e w2 ⟨rfl, U2, h2, hs2⟩
  have d4 := h2.cell 4
  have d5 := h2.cell 5
  have d6 := h2.cell 6
  have d7 := h2.cell 7
  have d8 := h2.cell 8
  have q4 := h2.blk.frozen 4
  have q5 := h2.blk.frozen 5
  have q6 := h2.blk.frozen 6
  have q7 := h2.blk.frozen 7
  have q8 := h2.blk.frozen 8
  have z2 := h2.blk.lt
  simp only [TS.cells, List.getElem?_toArray, List.getElem?_cons_zero, List.getElem?_cons_succ] at d4 d5 d6 d7 d8
  have H2 := Lib.hid h2
  have HS2 := Lib.hid hs2
  clear h2 hs2 HC
  go_wp2
  go_ret
  have hb := (((((H2.out.blk.set_ 4 (.bool true)).set_ 5 (.slice none 0 0)).set_ 6 (.slice none 0 0)).set_ 7 (.int .i64 0)).set_ 8 (.int .i64 0))
  have hf3 : Fr (fun k => k = s) w2 (((((w2.setCell ⟨s, 4, none⟩ (.bool true)).setCell ⟨s, 5, none⟩ (.slice none 0 0)).setCell ⟨s, 6, none⟩ (.slice none 0 0)).setCell ⟨s, 7, none⟩ (.int .i64 0)).setCell ⟨s, 8, none⟩ (.int .i64 0)) :=
    (((((Fr.refl (fun k => k = s) w2).setCell (p := ⟨s, 4, none⟩) (.inr rfl) _).setCell (p := ⟨s, 5, none⟩) (.inr rfl) _).setCell (p := ⟨s, 6, none⟩) (.inr rfl) _).setCell (p := ⟨s, 7, none⟩) (.inr rfl) _).setCell (p := ⟨s, 8, none⟩) (.inr rfl) _
  have h3 := H2.out.turn hf3 (fun b _ e => (show b = s from e) ▸ H2.out.rs) true (.slice none 0 0) (.slice none 0 0) [] [] 0 T.undone
    (by simp only [TS.cells, TS.cs, List.setIfInBounds_toArray, List.set_cons_zero, List.set_cons_succ] at hb ⊢; exact hb)
    (World.ownsRow_nil _ _ _ _) (World.ownsRow_nil _ _ _ _) (fun g hg => by simp [Value.ownBlock] at hg) (fun g hg => by simp [Value.ownBlock] at hg) (fun x hx => by simp at hx) (Nat.zero_le _) (Nat.zero_le _) (Nat.zero_le _) H2.out.n4
  refine ⟨rfl, _, U2, h3, ((Subs.of HFq.out).trans HS2.out).trans ⟨fun b hb => ?_, fun b hb => .inl hb, fun b hb => .inl hb, hf3.mono (fun i hi e => ?_)⟩⟩
  · rcases hb with hb | hb | hb
    · exact .inl hb
    · simp [Value.ownBlock] at hb
    · simp [Value.ownBlock] at hb
  · have e : i = s := e
    exact .inl (e ▸ HIn.out.rs)
end
end Go.Proofs.YtfapklpcgcgahaaGreatDoor

/-
  Begin, whatever room there is; Evict: as callers count.
-/
namespace Go.Proofs.YtfapklpcgcgahaaGreatDoor
set_option linter.unusedSimpArgs false
set_option linter.unusedVariables false
open Go.RowKit Go.Maps

section
variable {RS RO U : Nat → Prop} {w : World} {s pages M K : Nat} {T : TS} {d logn : Nat} {C B : Pgs} {svs : List (Nat × Nat × Pgs)} {n last undone : Nat} {q : Int}
theorem Begin_tb2 (h : TxIn RS RO U w s pages M K T) (hb : TI T d logn C undone q) (hq : 0 ≤ q) (hn : logn ≤ 32768) (hM : M + 8 ≤ 1000000000000000000) :
    Calls Tryz.prog 15 #[.pointer (some ⟨s, 0, none⟩)] w fun e w' => e = .returned (.int .i64 0) ∧ ∃ RS' U' T', TxIn RS' RO U' w' s pages (M + 8) K T' ∧ TB T' d logn C C [] 0 0 undone (48 * ((logn : Int) - 8) - 48 * ((logn : Int) - 8) / 16 - 17) ∧ Subs RS RS' RO RO U U' w w' := by
  have hr := hb.room
  by_cases hroom : 48 * ((logn : Int) - 8) - 48 * ((logn : Int) - 8) / 16 ≤ T.L.room
  · refine (Begin_tx h hb.busy (by rw [hb.logn]; exact hroom) (by rw [hb.logn]; exact hn)).mono ?_
    rintro e w' ⟨rfl, RS', h1, hs⟩
    refine ⟨rfl, RS', U, _, h1.more (by omega) hM (Nat.le_refl _) h.pool.nx.2.1, ⟨rfl, hb.d, hb.logn, hb.pages, rfl, rfl, fun x hx => by simp at hx, List.Pairwise.nil, rfl, rfl, hb.undone, ?_⟩, hs⟩
    show 48 * ((logn : Int) - 8) - 48 * ((logn : Int) - 8) / 16 - 17 + ((0 : Nat) : Int) + 17 ≤ T.L.room
    omega
  · refine (Begin_ck h hb.busy (by rw [hb.logn]; omega) (by omega) (by rw [hb.logn]; exact hn) hM).mono ?_
    rintro e w' ⟨rfl, RS', U', h1, hs⟩
    refine ⟨rfl, RS', U', _, h1, ⟨rfl, hb.d, hb.logn, hb.pages, rfl, rfl, fun x hx => by simp at hx, List.Pairwise.nil, rfl, rfl, hb.undone, ?_⟩, hs⟩
    have h2 := h.sum2
    have h3 := h.n16
    rw [hb.logn] at h2 h3
    show 48 * ((logn : Int) - 8) - 48 * ((logn : Int) - 8) / 16 - 17 + ((0 : Nat) : Int) + 17 ≤ T.L.room + (sizes T.L.rs : Int)
    omega
end
end Go.Proofs.YtfapklpcgcgahaaGreatDoor

/-
  The Last row beside a world; the rows of a world that are laid anew.
-/
namespace Go.Proofs.YtfapklpcgcgahaaGreatDoor
set_option linter.unusedSimpArgs false
set_option linter.unusedVariables false
open Go.RowKit Go.Maps

theorem andK_nat (a : Int) (m : Nat) (hm : m < 4611686018427387904) : ∃ k : Nat, bits .and .i64 a m = (k : Int) ∧ k ≤ m := by
  refine ⟨(BitVec.ofInt 64 a &&& BitVec.ofInt 64 m).toNat, ?_, ?_⟩
  · show IntKind.i64.wrap ((BitVec.ofInt 64 a &&& BitVec.ofInt 64 m).toNat : Nat) = _
    have h : (BitVec.ofInt 64 a &&& BitVec.ofInt 64 m).toNat ≤ m := by
      rw [BitVec.toNat_and]
      refine Nat.le_trans Nat.and_le_right ?_
      rw [BitVec.toNat_ofInt]; omega
    rw [IntKind.wrap_i64]; omega
  · rw [BitVec.toNat_and]
    refine Nat.le_trans Nat.and_le_right ?_
    rw [BitVec.toNat_ofInt]; omega
/-- All of a world's blocks that may turn, with the world's own. -/
def AllG (RS RO U : Nat → Prop) (nv : Value) (g : Nat) : Nat → Prop := fun b => AllN RS RO U nv b ∨ b = g
theorem Subs.allg {w w' : World} {RS RO U RS' RO' U' : Nat → Prop} {nv : Value} {g : Nat} (hs : Subs RS RS' RO RO' U U' w w') : ∀ b, AllG RS' RO' U' nv g b → AllG RS RO U nv g b ∨ w.heap.size ≤ b := fun b hb => by
  rcases hb with hb | hb
  · exact (hs.alln b hb).imp .inl id
  · exact .inl (.inr hb)
/-- A row of pages' texts that nothing of A touches. -/
def LastRow (w : World) (base : Nat) (A : Nat → Prop) (v : Value) (P : Pgs) : Prop := Row6 w base v P ∧ ∀ b, v.ownBlock = some b → ¬ A b
theorem LastRow.step {w w' : World} {base : Nat} {A A' F : Nat → Prop} {v : Value} {P : Pgs} (h : LastRow w base A v P) (hf : Fr F w w') (hF : ∀ b, F b → A b) (hA : ∀ b, A' b → A b ∨ w.heap.size ≤ b) : LastRow w' base A' v P := by
  refine ⟨own_fr h.1 hf (fun b hb e => h.2 b hb (hF b e)), fun b hb e => ?_⟩
  rcases hA b e with e | e
  · exact h.2 b hb e
  · have := own_lt h.1 hb; omega
section
variable {w0 w w' : World} {RS RO U RS' RO' U' : Nat → Prop} {g s M K : Nat} {T T' : TS} {log frames : Int} {nv lv : Value} {N P : Pgs}
theorem LastRow.new {base : Nat} {A : Nat → Prop} (h : LastRow w base A lv P) (hf : Fr Nob w w') : LastRow w' base A lv P := h.step hf (fun _ h => h.elim) (fun _ h => .inl h)
theorem LastRow.subs {base : Nat} (h : LastRow w base (AllG RS RO U nv g) lv P) (hs : Subs RS RS' RO RO' U U' w w') : LastRow w' base (AllG RS' RO' U' nv g) lv P :=
  h.step hs.fr3 (fun b hb => .inl (.inl hb)) hs.allg
theorem LastRow.form {base : Nat} {A : Nat → Prop} (h : LastRow w base A lv P) : ∃ gl cl, lv = .slice (some ⟨gl, 0, none⟩) 6 cl ∧ 6 ≤ cl ∧ gl < w.heap.size := by
  rcases (show w.ownsRow base 9 1 lv 6 _ from h.1).2 with ⟨_, e⟩ | ⟨gn, cn, cur, e, _, hh, h5, _⟩
  · omega
  · exact ⟨gn, cn, e, h5, Blk.lt hh⟩
theorem TW.cl (h : TW w0 w RS RO U g s M K T log frames nv lv N) : w.cell? ⟨g, 5, none⟩ = some lv := by
  have := h.wld.cell 5
  simpa [w6cells] using this
theorem TW.allg_lt (h : TW w0 w RS RO U g s M K T log frames nv lv N) {b : Nat} (hb : AllG RS RO U nv g b) : b < w.heap.size := by
  rcases hb with (hb | hb) | hb
  · exact h.tx.all3lt hb
  · exact own_lt (show w.ownsRow _ 9 1 nv 6 _ from h.now) hb
  · exact hb ▸ h.lt
theorem TW.gnv (h : TW w0 w RS RO U g s M K T log frames nv lv N) : nv.ownBlock ≠ some g := fun e => by
  obtain ⟨cs, hb⟩ := own_blk (show w.ownsRow _ 9 1 nv 6 _ from h.now) e
  exact Blk.ne_ (t := 9) (t' := 38) hb h.wld (by decide) rfl
/-- The Last row is another one. -/
theorem TW.setLast (h : TW w0 w RS RO U g s M K T log frames nv lv N) (lv' : Value) : TW w0 (w.setCell ⟨g, 5, none⟩ lv') RS RO U g s M K T log frames nv lv' N := by
  have hf : Fr (fun b => b = g) w (w.setCell ⟨g, 5, none⟩ lv') := (Fr.refl (fun b => b = g) w).setCell (p := ⟨g, 5, none⟩) (.inr rfl) _
  have hb := h.wld.set_ 5 lv'
  exact ⟨by simpa [w6cells] using hb, h.tx.fr hf (fun b hb e => h.ng (e ▸ .inl hb)) (fun b hb e => h.ng (e ▸ .inr (.inl hb))) (fun b hb e => h.ng (e ▸ .inr (.inr hb))), own_fr h.now hf (fun b hb e => h.gnv (by rw [hb, show b = g from e])), h.nvb, h.hi, h.ng, h.gg,
    h.fr.step hf (fun j hj e => by have e : j = g := e; have := h.gg; omega)⟩
/-- The Now row is another one. -/
theorem TW.setNowRow (h : TW w0 w RS RO U g s M K T log frames nv lv N) (nv' : Value) (N' : Pgs) (hrow : Row6 w w0.heap.size nv' N') (hap : ∀ b, nv'.ownBlock = some b → ¬ All3 RS RO U b) : TW w0 (w.setCell ⟨g, 4, none⟩ nv') RS RO U g s M K T log frames nv' lv N' := by
  have hf : Fr (fun b => b = g) w (w.setCell ⟨g, 4, none⟩ nv') := (Fr.refl (fun b => b = g) w).setCell (p := ⟨g, 4, none⟩) (.inr rfl) _
  have hb := h.wld.set_ 4 nv'
  exact ⟨by simpa [w6cells] using hb, h.tx.fr hf (fun b hb e => h.ng (e ▸ .inl hb)) (fun b hb e => h.ng (e ▸ .inr (.inl hb))) (fun b hb e => h.ng (e ▸ .inr (.inr hb))), own_fr hrow hf (fun b hb e => by
      obtain ⟨cs, hb2⟩ := own_blk (show w.ownsRow _ 9 1 nv' 6 _ from hrow) hb
      exact Blk.ne_ (t := 9) (t' := 38) hb2 h.wld (by decide) e), hap, h.hi, h.ng, h.gg,
    h.fr.step hf (fun j hj e => by have e : j = g := e; have := h.gg; omega)⟩
end
end Go.Proofs.YtfapklpcgcgahaaGreatDoor
