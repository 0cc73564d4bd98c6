/-
  TxnClose, TxnSave, TxnBackS, in one text.
-/
import Derived.Test.YtfapklpcgcgahaaGreatDoorMg31
/-
  close, Commit, Abort, Read, and the getters.
-/
namespace Go.Proofs.YtfapklpcgcgahaaGreatDoor
set_option linter.unusedSimpArgs false
set_option linter.unusedVariables false
open Go.RowKit Go.Maps

section
variable {RS RO U : Nat → Prop} {w : World} {s pages M K : Nat} {T : TS}
/-- What a call leaves of the blocks. -/
structure Subs (RS RS' RO RO' U U' : Nat → Prop) (w w' : World) : Prop where
  rs : ∀ b, RS' b → RS b ∨ w.heap.size ≤ b
  ro : ∀ b, RO' b → RO b ∨ w.heap.size ≤ b
  u : ∀ b, U' b → U b ∨ w.heap.size ≤ b
  fr : Fr (fun b => RS b ∨ U b) w w'
theorem Subs.trans {RS RS' RS2 RO RO' RO2 U U' U2 : Nat → Prop} {w w' w2 : World} (h : Subs RS RS' RO RO' U U' w w') (k : Subs RS' RS2 RO' RO2 U' U2 w' w2) : Subs RS RS2 RO RO2 U U2 w w2 := by
  have hz := h.fr.size
  refine ⟨fun b hb => ?_, fun b hb => ?_, fun b hb => ?_, h.fr.step k.fr (fun i hi e => ?_)⟩
  · rcases k.rs b hb with e | e
    · exact h.rs b e
    · exact .inr (by omega)
  · rcases k.ro b hb with e | e
    · exact h.ro b e
    · exact .inr (by omega)
  · rcases k.u b hb with e | e
    · exact h.u b e
    · exact .inr (by omega)
  · rcases e with e | e
    · rcases h.rs i e with e | e
      · exact .inl e
      · omega
    · rcases h.u i e with e | e
      · exact .inr e
      · omega
theorem Subs.of {RS RO U : Nat → Prop} {w w' : World} (h : Fr Nob w w') : Subs RS RS RO RO U U w w' := ⟨fun _ h => .inl h, fun _ h => .inl h, fun _ h => .inl h, h.mono (fun _ _ h => h.elim)⟩
set_option maxHeartbeats 3200000 in
set_option maxRecDepth 100000 in
theorem Close_tx (h : TxIn RS RO U w s pages M K T) (kd : UInt8) (hroom : 17 ≤ T.L.room) (hK : K + 1 ≤ 400000) :
    Calls Tryz.prog 49 #[.pointer (some ⟨s, 0, none⟩), .int .u8 kd.toNat] w fun e w' => e = .returned (.int .i64 0) ∧ ∃ RS' U', TxIn RS' RO U' w' s pages M (K + 1) { T with L := T.L.add [kd], busy := false, cv := .slice none 0 0, sv := .slice none 0 0, cms := [], ss := [] } ∧ Subs RS RS' RO RO U U' w w' := by
  have hf1 : Fr Nob w (w.alloc (.cells (bts [kd]).toArray 5)) := (Fr.refl _ w).alloc _
  have hbi := bytesIn_lit w [kd] (0, 0)
  have h1 := h.new hf1
  have hap := h1.pool.append ⟨w.heap.size, 0, none⟩ 1 [kd] hbi (by simp) (by simp) (by simp; omega) hK
  have e1 : (bts [kd]).toArray = #[Value.int .u8 kd.toNat] := rfl
  rw [e1] at hap hf1 h1
  have HAp := Lib.hid hap
  have H1 := Lib.hid h1
  have HF1 := Lib.hid hf1
  have HIn := Lib.hid h
  have c2 := h.cell 2
  have zs := h.blk.lt
  simp only [TS.cells, List.getElem?_toArray, List.getElem?_cons_zero, List.getElem?_cons_succ] at c2
  clear hf1 hbi h1 hap e1 h
  go_enter Tryz.func49, Tryz.ntmps49
  go_wp2_with fail
  refine HAp.out.mono ?_
  rintro e w2 ⟨rfl, U2, hok2, hsub2, hf2⟩
  have h2 := H1.out.add hok2 hsub2 hf2
  have c4 := h2.cell 4
  have c5 := h2.cell 5
  have c6 := h2.cell 6
  have c8 := h2.cell 8
  have q4 := h2.blk.frozen 4
  have q5 := h2.blk.frozen 5
  have q6 := h2.blk.frozen 6
  have q8 := h2.blk.frozen 8
  have z2 := h2.blk.lt
  simp only [TS.cells, List.getElem?_toArray, List.getElem?_cons_zero, List.getElem?_cons_succ] at c4 c5 c6 c8
  have H2 := Lib.hid h2
  have HS2 := Lib.hid hsub2
  have HF2 := Lib.hid hf2
  clear hok2 hsub2 hf2 h2 HAp
  go_wp2
  go_ret
  have hb := ((((H2.out.blk.set_ 4 (.bool false)).set_ 5 (.slice none 0 0)).set_ 6 (.slice none 0 0)).set_ 8 (.int .i64 0))
  have hf3 : Fr (fun k => k = s) w2 ((((w2.setCell ⟨s, 4, none⟩ (.bool false)).setCell ⟨s, 5, none⟩ (.slice none 0 0)).setCell ⟨s, 6, none⟩ (.slice none 0 0)).setCell ⟨s, 8, none⟩ (.int .i64 0)) :=
    ((((Fr.refl (fun k => k = s) w2).setCell (p := ⟨s, 4, none⟩) (.inr rfl) _).setCell (p := ⟨s, 5, none⟩) (.inr rfl) _).setCell (p := ⟨s, 6, none⟩) (.inr rfl) _).setCell (p := ⟨s, 8, none⟩) (.inr rfl) _
  have h3 := H2.out.turn hf3 (fun b _ e => (show b = s from e) ▸ H2.out.rs) false (.slice none 0 0) (.slice none 0 0) [] [] T.last T.undone
    (by simp only [TS.cells, TS.cs, List.setIfInBounds_toArray, List.set_cons_zero, List.set_cons_succ] at hb ⊢; exact hb)
    (World.ownsRow_nil _ _ _ _) (World.ownsRow_nil _ _ _ _) (fun g hg => by simp [Value.ownBlock] at hg) (fun g hg => by simp [Value.ownBlock] at hg) (fun x hx => by simp at hx) (Nat.zero_le _) (Nat.zero_le _) H2.out.n3 H2.out.n4
  have hz := HF1.out.size
  have hz2 := HF2.out.size
  refine ⟨rfl, _, _, h3, fun b hb => ?_, fun b hb => .inl hb, fun b hb => ?_, ?_⟩
  · rcases hb with hb | hb | hb
    · exact .inl hb
    · simp [Value.ownBlock] at hb
    · simp [Value.ownBlock] at hb
  · rcases HS2.out b hb.1 with e | e
    · exact .inl e
    · exact .inr (by omega)
  · refine ((HF1.out.mono (fun _ _ h => h.elim)).step HF2.out (fun i hi e => .inr e)).step hf3 (fun i hi e => ?_)
    have e : i = s := e
    exact .inl (e ▸ HIn.out.rs)
set_option maxHeartbeats 1600000 in
set_option maxRecDepth 100000 in
theorem Commit_tx (h : TxIn RS RO U w s pages M K T) (hbz : T.busy = true) (hroom : 17 ≤ T.L.room) (hK : K + 1 ≤ 400000) :
    Calls Tryz.prog 19 #[.pointer (some ⟨s, 0, none⟩)] w fun e w' => e = .returned (.int .i64 0) ∧ ∃ RS' U', TxIn RS' RO U' w' s pages M (K + 1) { T with L := T.L.add [3], busy := false, cv := .slice none 0 0, sv := .slice none 0 0, cms := [], ss := [] } ∧ Subs RS RS' RO RO U U' w w' := by
  have HCl := Lib.hid (Close_tx h 3 hroom hK)
  have c4 := h.cell 4
  have zs := h.blk.lt
  simp only [TS.cells, List.getElem?_toArray, List.getElem?_cons_zero, List.getElem?_cons_succ, hbz] at c4
  clear h hbz
  go_enter Tryz.func19, Tryz.ntmps19
  go_wp2_with fail
  refine HCl.out.mono ?_
  rintro e w2 ⟨rfl, RS2, U2, h2, hs2⟩
  have HFl := Lib.hid h2.pool.logFlush
  have c2 := h2.cell 2
  have z2 := h2.blk.lt
  simp only [TS.cells, List.getElem?_toArray, List.getElem?_cons_zero, List.getElem?_cons_succ] at c2
  have H2 := Lib.hid h2
  have HS2 := Lib.hid hs2
  clear h2 hs2 HCl
  go_wp2_with fail
  refine HFl.out.mono ?_
  rintro e w3 ⟨rfl, U3, hok3, hsub3, hf3⟩
  have h3 := H2.out.step hok3 hsub3 hf3
  go_wp2
  go_ret
  exact ⟨rfl, RS2, _, h3, HS2.out.trans ⟨fun b hb => .inl hb, fun b hb => .inl hb, fun b hb => hsub3 b hb.1, hf3.mono (fun _ _ h => .inr h)⟩⟩
theorem BackAt.subs {wr : World} {A : Option Addr} {c m : Nat} (h : BackAt RS RO U w wr s pages M K T A c m) : ∃ RS' U' V' L', TxIn RS' RO U' wr s pages (M + 2 * (T.cms.length - m)) (K + (T.cms.length - m)) { T with V := V', L := L', cv := .slice A m c, cms := T.cms.take m, undone := T.undone + (T.cms.length - m) } ∧ (fun k => (V' k).d) = unTo T.cs m (fun k => (T.V k).d) ∧ L'.room + (needAll T.cs : Nat) = T.L.room + (needAll (T.cs.take m) : Nat) ∧ L'.n = T.L.n ∧ Subs RS RS' RO RO U U' w wr := by
  obtain ⟨⟨RS', U', V', L', h1, h2, h3, h4, h5, h6⟩, h7⟩ := h
  exact ⟨RS', U', V', L', h1, h2, h3, h4, h5, fun b hb => .inl hb, h6, h7⟩
set_option maxHeartbeats 1600000 in
set_option maxRecDepth 100000 in
theorem Abort_tx (h : TxIn RS RO U w s pages M K T) (hbz : T.busy = true) (hroom : ((needAll T.cs : Nat) : Int) + 17 ≤ T.L.room) (hK : K + T.cms.length + 1 ≤ 400000) (hM : M + 1000000 ≤ 1000000000000000000) :
    Calls Tryz.prog 20 #[.pointer (some ⟨s, 0, none⟩)] w fun e w' => e = .returned (.int .i64 0) ∧ ∃ RS' U' V' L', TxIn RS' RO U' w' s pages (M + 2 * T.cms.length) (K + T.cms.length + 1) { T with V := V', L := L', busy := false, cv := .slice none 0 0, sv := .slice none 0 0, cms := [], ss := [], undone := T.undone + T.cms.length } ∧ (fun k => (V' k).d) = unTo T.cs 0 (fun k => (T.V k).d) ∧ L'.room + (needAll T.cs : Nat) + 17 = T.L.room ∧ L'.n = T.L.n ∧ Subs RS RS' RO RO U U' w w' := by
  have HBk := Lib.hid (Back_tx h 0 (Nat.zero_le _) (by omega) (by omega) hM)
  have HRm := Lib.hid hroom
  have c4 := h.cell 4
  have zs := h.blk.lt
  simp only [TS.cells, List.getElem?_toArray, List.getElem?_cons_zero, List.getElem?_cons_succ, hbz] at c4
  clear h hbz hroom
  go_enter Tryz.func20, Tryz.ntmps20
  go_wp2_with fail
  refine HBk.out.mono ?_
  rintro e w2 ⟨rfl, A, c, hb⟩
  obtain ⟨RS2, U2, V2, L2, h2, hv2, hr2, hn2, hs2⟩ := hb.subs
  rw [Nat.sub_zero] at h2
  have hz0 : needAll (T.cs.take 0) = 0 := rfl
  rw [hz0] at hr2
  have HCl := Lib.hid (Close_tx h2 4 (by have := HRm.out; show 17 ≤ L2.room; omega) hK)
  have HV2 := Lib.hid hv2
  have HR2 := Lib.hid hr2
  have HN2 := Lib.hid hn2
  have HS2 := Lib.hid hs2
  clear hb h2 hv2 hr2 hn2 hs2 HBk hz0
  go_wp2_with fail
  refine HCl.out.mono ?_
  rintro e w3 ⟨rfl, RS3, U3, h3, hs3⟩
  go_wp2
  go_ret
  have hr := HR2.out
  exact ⟨rfl, RS3, U3, V2, L2.add [4], h3, HV2.out, by show L2.room - (16 + (1 : Nat)) + (needAll T.cs : Nat) + 17 = T.L.room; omega, HN2.out, HS2.out.trans hs3⟩
set_option maxHeartbeats 1600000 in
set_option maxRecDepth 100000 in
theorem Read_tx (h : TxIn RS RO U w s pages M K T) (no : Nat) (hno : no < pages) (hM : M + 1 ≤ 1000000000000000000) :
    Calls Tryz.prog 27 #[.pointer (some ⟨s, 0, none⟩), .int .i64 no] w fun e w' => ∃ g, e = .returned (.tuple #[.slice (some ⟨g, 0, none⟩) 480 480, .int .i64 0]) ∧ CopyIn w' g (T.V no).d ∧ w.heap.size ≤ g ∧ ∃ U', TxIn RS RO U' w' s pages (M + 1) K T ∧ ¬ U' g ∧ Subs RS RS RO RO U U' w w' := by
  have HGet := Lib.hid (h.pool.get no hno hM)
  have c1 := h.cell 1
  have zs := h.blk.lt
  simp only [TS.cells, List.getElem?_toArray, List.getElem?_cons_zero, List.getElem?_cons_succ] at c1
  have HIn := Lib.hid h
  clear h
  go_enter Tryz.func27, Tryz.ntmps27
  go_wp2_with fail
  refine HGet.out.mono ?_
  rintro e w1 ⟨g, rfl, hc, hg, U1, hok, hug, hsub, hf⟩
  have h1 := HIn.out.step hok hsub hf
  have hg1 := hc.lt
  have hfa : Fr Nob w1 (w1.alloc (.cells #[.int .i64 no, .int .u64 (T.V no).lsn, .slice (some ⟨g, 0, none⟩) 480 480] 84)) := (Fr.refl _ w1).alloc _
  have H1 := Lib.hid h1
  have HC := Lib.hid hc
  have HF := Lib.hid hf
  have HU := Lib.hid hug
  have HSb := Lib.hid hsub
  have HFa := Lib.hid hfa
  clear hok hug hsub hf h1 hc hfa HGet
  go_wp2
  go_ret2
  exact ⟨g, rfl, HC.out.fr HFa.out (fun h => h), hg, _, H1.out.new HFa.out, fun e => HU.out e.1, ⟨fun b hb => .inl hb, fun b hb => .inl hb, fun b hb => HSb.out b hb.1, (HF.out.mono (fun _ _ h => .inr h)).trans (HFa.out.mono (fun _ _ h => h.elim))⟩⟩
set_option maxRecDepth 100000 in
theorem Busy_tx (h : TxIn RS RO U w s pages M K T) : Calls Tryz.prog 37 #[.pointer (some ⟨s, 0, none⟩)] w fun e w' => e = .returned (.bool T.busy) ∧ w = w' := by
  have c4 := h.cell 4
  have zs := h.blk.lt
  simp only [TS.cells, List.getElem?_toArray, List.getElem?_cons_zero, List.getElem?_cons_succ] at c4
  clear h
  go_enter Tryz.func37, Tryz.ntmps37
  go_wp2
  go_ret
  exact ⟨rfl, rfl⟩
set_option maxRecDepth 100000 in
theorem Pages_tx (h : TxIn RS RO U w s pages M K T) : Calls Tryz.prog 52 #[.pointer (some ⟨s, 0, none⟩)] w fun e w' => e = .returned (.int .i64 pages) ∧ w = w' := by
  have c3 := h.cell 3
  have zs := h.blk.lt
  simp only [TS.cells, List.getElem?_toArray, List.getElem?_cons_zero, List.getElem?_cons_succ] at c3
  clear h
  go_enter Tryz.func52, Tryz.ntmps52
  go_wp2
  go_ret
  exact ⟨rfl, rfl⟩
set_option maxRecDepth 100000 in
theorem Undone_tx (h : TxIn RS RO U w s pages M K T) : Calls Tryz.prog 22 #[.pointer (some ⟨s, 0, none⟩)] w fun e w' => e = .returned (.int .i64 T.undone) ∧ w = w' := by
  have c9 := h.cell 9
  have zs := h.blk.lt
  simp only [TS.cells, List.getElem?_toArray, List.getElem?_cons_zero, List.getElem?_cons_succ] at c9
  clear h
  go_enter Tryz.func22, Tryz.ntmps22
  go_wp2
  go_ret
  exact ⟨rfl, rfl⟩
end
end Go.Proofs.YtfapklpcgcgahaaGreatDoor

/-
  Save.
-/
namespace Go.Proofs.YtfapklpcgcgahaaGreatDoor
set_option linter.unusedSimpArgs false
set_option linter.unusedVariables false
open Go.RowKit Go.Maps

theorem info_save : (Tryz.prog.info? 97).map (fun i => (i.zero, i.size, i.bytes)) = some (some (.agg #[.int .i64 0, .int .i64 0]), 2, 16) := by kernel_rfl
section
variable {RS RO U : Nat → Prop} {w : World} {s pages M K : Nat} {T : TS}
set_option maxHeartbeats 3200000 in
set_option maxRecDepth 100000 in
theorem Save_tx (h : TxIn RS RO U w s pages M K T) (hbz : T.busy = true) (hK : K + 1 ≤ 400000) :
    Calls Tryz.prog 24 #[.pointer (some ⟨s, 0, none⟩)] w fun e w' => e = .returned (.tuple #[.int .i64 ((T.last + 1 : Nat) : Int), .int .i64 0]) ∧ ∃ RS' sv', TxIn RS' RO U w' s pages M (K + 1) { T with sv := sv', ss := T.ss ++ [(T.last + 1, T.cms.length)], last := T.last + 1 } ∧ Subs RS RS' RO RO U U w w' := by
  obtain ⟨i0, hi0, iz0, iz1, iz2⟩ := info_parts' info_save
  have qL : ∀ (w : World) (A : Option Addr) (n c : Nat), (Builtin.len_ #[78] 3 #[Value.slice A n c]).run Tryz.prog w = .ok (.int .i64 n) w := fun w A n c => by go_simp
  have hM1 := h.pool.nx.2.2.2
  have h' := h.more (Nat.le_refl M) hM1 (Nat.le_succ K) hK
  have hn3 := h.n3
  have hn2 := h.n2
  have hn1 := h.n1
  obtain ⟨A, c, hcv⟩ : ∃ A c, T.cv = .slice A T.cms.length c := by
    rcases h.chg.2 with ⟨e, e2⟩ | ⟨g, cap, cur, e, _⟩
    · exact ⟨none, 0, by rw [e2]; exact e⟩
    · exact ⟨_, _, e⟩
  have c4 := h.cell 4
  have c7 := h.cell 7
  have q7 := h.blk.frozen 7
  have zs := h.blk.lt
  simp only [TS.cells, List.getElem?_toArray, List.getElem?_cons_zero, List.getElem?_cons_succ, hbz] at c4 c7
  have hb2 := h'.blk.set_ 7 (.int .i64 ((T.last : Int) + 1))
  have hf2 : Fr (fun k => k = s) w (w.setCell ⟨s, 7, none⟩ (.int .i64 ((T.last : Int) + 1))) := (Fr.refl (fun k => k = s) w).setCell (p := ⟨s, 7, none⟩) (.inr rfl) _
  have h2 := h'.turn hf2 (fun b _ e => (show b = s from e) ▸ h'.rs) T.busy T.cv T.sv T.cms T.ss (T.last + 1) T.undone
    (by
      simp only [TS.cells, TS.cs, List.setIfInBounds_toArray, List.set_cons_zero, List.set_cons_succ] at hb2 ⊢
      rw [show ((T.last + 1 : Nat) : Int) = (T.last : Int) + 1 from by omega]; exact hb2)
    (own_set h'.chg h'.blk (by decide)) (own_set h'.sav h'.blk (by decide)) (fun g hg => .inl (h'.rc g hg)) (fun g hg => .inl (h'.rv g hg)) (fun x hx => .inl hx) h'.n1 h'.n2 (by omega) h'.n4
  obtain ⟨w2, hw2⟩ : ∃ W, w.setCell ⟨s, 7, none⟩ (.int .i64 ((T.last : Int) + 1)) = W := ⟨_, rfl⟩
  rw [hw2] at h2 hf2
  have d5 := h2.cell 5
  have d6 := h2.cell 6
  have d7 := h2.cell 7
  have q6 := h2.blk.frozen 6
  have z2 := h2.blk.lt
  simp only [TS.cells, List.getElem?_toArray, List.getElem?_cons_zero, List.getElem?_cons_succ, hcv] at d5 d6 d7
  have hNs : ∀ g, T.sv.ownBlock = some g → ¬ g = s := fun g hg e => by
    obtain ⟨cs1, hb1⟩ := own_blk h2.sav hg
    subst e
    exact Blk.ne_ (t := 97) (t' := 81) hb1 h2.blk (by decide) rfl
  have hss : ¬ (fun k => some k = T.sv.ownBlock) s := fun e => hNs s e.symm rfl
  have HIn := Lib.hid h
  have H2 := Lib.hid h2
  have HF2 := Lib.hid hf2
  have HNs := Lib.hid hss
  have HSv := Lib.hid h2.sav
  have HB2 := Lib.hid h2.blk
  have HCv := Lib.hid hcv
  obtain ⟨n, hn⟩ : ∃ n, T.cms.length = n := ⟨_, rfl⟩
  obtain ⟨la, hla⟩ : ∃ la, T.last + 1 = la := ⟨_, rfl⟩
  have hlai : (T.last : Int) + 1 = (la : Int) := by omega
  rw [hlai] at hw2
  rw [hla] at d7
  rw [hn] at d5
  have HN := Lib.hid hn
  have HLa := Lib.hid hla
  have ewr : IntKind.i64.wrap ((T.last : Int) + 1) = (la : Int) := by rw [IntKind.wrap_i64]; omega
  rw [hla]
  clear h h' hb2 hf2 h2 hNs hss hcv hbz hn hla
  go_enter Tryz.func24, Tryz.ntmps24
  go_wp2_with fail
  try rw [hw2]
  have hS : Fr (fun k => some k = T.sv.ownBlock) w2 w2.drew := (Fr.refl _ w2).drew
  refine Rg.begin (Fr (fun k => some k = T.sv.ownBlock) w2) [19] (by kernel_rfl) ?_
  refine Rg.op 0 (some 16) hS (v := ?v0a) (hy := fun wz hwz => ?h0a) (h := ?_)
  case h0a => (go_simp; try with_reducible rfl)
  refine Rg.op 1 (some 17) hS (v := ?v1a) (hy := fun wz hwz => ?h1a) (h := ?_)
  case h1a => (go_simp; try with_reducible rfl)
  refine Rg.op 2 (some 18) hS (v := ?v2a) (hy := fun wz hwz => ?h2a) (h := ?_)
  case h2a => (have hpp := Nat.lt_of_lt_of_le z2 hwz.size; go_simp; try with_reducible rfl)
  refine Rg.op 3 (some 19) hS (v := ?v3a) (hy := fun wz hwz => ?h3a) (h := ?_)
  case h3a => (have hpp := Nat.lt_of_lt_of_le z2 hwz.size; go_simp; try with_reducible rfl)
  refine Rg.op 4 (some 20) hS (v := (T.sv)) (hy := fun wz hwz => ?h4a) (h := ?_)
  case h4a => (have cx := (hwz.cell (p := ⟨s, 6, none⟩) z2 HNs.out).trans d6; have hpp := Nat.lt_of_lt_of_le z2 hwz.size; go_simp; try with_reducible rfl)
  refine Rg.op 5 (some 21) hS (v := ?v5a) (hy := fun wz hwz => ?h5a) (h := ?_)
  case h5a => (go_simp; try with_reducible rfl)
  refine Rg.op 6 (some 22) hS (v := ?v6a) (hy := fun wz hwz => ?h6a) (h := ?_)
  case h6a => (have hpp := Nat.lt_of_lt_of_le z2 hwz.size; go_simp; try with_reducible rfl)
  refine Rg.op 7 (some 23) hS (v := ?v7a) (hy := fun wz hwz => ?h7a) (h := ?_)
  case h7a => (have hpp := Nat.lt_of_lt_of_le z2 hwz.size; go_simp; try with_reducible rfl)
  refine Rg.op 8 (some 24) hS (v := (.int .i64 la)) (hy := fun wz hwz => ?h8a) (h := ?_)
  case h8a => (have cx := (hwz.cell (p := ⟨s, 7, none⟩) z2 HNs.out).trans d7; have hpp := Nat.lt_of_lt_of_le z2 hwz.size; go_simp; try with_reducible rfl)
  refine Rg.op 9 (some 25) hS (v := ?v9a) (hy := fun wz hwz => ?h9a) (h := ?_)
  case h9a => (go_simp; try with_reducible rfl)
  refine Rg.op 10 (some 26) hS (v := ?v10a) (hy := fun wz hwz => ?h10a) (h := ?_)
  case h10a => (have hpp := Nat.lt_of_lt_of_le z2 hwz.size; go_simp; try with_reducible rfl)
  refine Rg.op 11 (some 27) hS (v := ?v11a) (hy := fun wz hwz => ?h11a) (h := ?_)
  case h11a => (have hpp := Nat.lt_of_lt_of_le z2 hwz.size; go_simp; try with_reducible rfl)
  refine Rg.op 12 (some 28) hS (v := (.slice A n c)) (hy := fun wz hwz => ?h12a) (h := ?_)
  case h12a => (have cx := (hwz.cell (p := ⟨s, 5, none⟩) z2 HNs.out).trans d5; have hpp := Nat.lt_of_lt_of_le z2 hwz.size; go_simp; try with_reducible rfl)
  refine Rg.op 13 (some 29) hS (v := (.int .i64 n)) (hy := fun wz hwz => ?h13a) (h := ?_)
  case h13a => (go_simp; try with_reducible rfl)
  refine Rg.op 14 (some 30) hS (v := (.agg #[.int .i64 la, .int .i64 n])) (hy := fun wz hwz => ?h14a) (h := ?_)
  case h14a => (go_simp; try with_reducible rfl)
  have hSa : Fr (fun k => some k = T.sv.ownBlock) w2 (w2.drew.alloc (.cells #[.int .i64 la, .int .i64 n] 97)) := hS.alloc _
  refine Rg.run 15 (some 31) (v := (.slice (some ⟨w2.heap.size, 0, none⟩) 1 1)) (w' := (w2.drew.alloc (.cells #[.int .i64 la, .int .i64 n] 97))) (hrun := ?h15a) (hS := (fun _ => hSa)) (h := ?_)
  case h15a => (go_simp; try with_reducible rfl)
  have hOb : (w2.drew.alloc (.cells #[.int .i64 la, .int .i64 n] 97)).ownsRow 0 97 2 T.sv T.ss.length (svCells T.ss) := HSv.out.alloc _
  have hNw : ∀ (j : Nat) u, ([.int .i64 la, .int .i64 n] : List Value)[j]? = some u → (w2.drew.alloc (.cells #[.int .i64 la, .int .i64 n] 97)).cell? ((⟨w2.heap.size, 0, none⟩ : Addr).add j) = some u := fun j u hu => by
    have hb := Blk.new w2.drew 97 #[.int .i64 la, .int .i64 n]
    rw [Addr.add_mid, Nat.zero_add]; exact (hb.cell j).trans (by simpa using hu)
  obtain ⟨v7, w7, hr7, hown7, hg7, hn7, hat7⟩ := run_append_own_at (P := Tryz.prog) (w2.drew.alloc (.cells #[.int .i64 la, .int .i64 n] 97)) 0 79 79 97 i0 (.agg #[.int .i64 0, .int .i64 0]) 2 16 Tryz.underlying79 hi0 iz0 iz1 iz2 rfl (by decide) T.sv T.ss.length (svCells T.ss) hOb ⟨w2.heap.size, 0, none⟩ 1 1 [.int .i64 la, .int .i64 n] rfl hNw (by intro u hu; simp only [List.mem_cons, List.not_mem_nil, or_false] at hu; rcases hu with rfl | rfl <;> rfl) (by unfold maxLen; omega) (by omega) (Nat.zero_le _)
  obtain ⟨g7, cap7, rfl, _⟩ := hown7.form (by omega)
  have HR7 := Lib.hid hr7
  have HO7 := Lib.hid hown7
  have HA7 := Lib.hid hat7
  have hS7 : Fr (fun k => some k = T.sv.ownBlock) w2 w7 := hSa.grown hg7 (fun k hk => .inr hk.symm)
  clear hr7 hown7 hat7 hg7 hNw hOb hn7
  refine Rg.run 16 (some 32) (v := (.slice (some ⟨g7, 0, none⟩) (T.ss.length + 1) cap7)) (w' := (w7)) (hrun := ?h16a) (hS := (fun _ => hS7)) (h := ?_)
  case h16a => exact run_opAppend (.tmp 20) (.tmp 31) 79 79 T.sv (.slice (some ⟨w2.heap.size, 0, none⟩) 1 1) rfl rfl rfl rfl HR7.out
  refine Rg.op 17 (some 33) hS7 (v := ?v17a) (hy := fun wz hwz => ?h17a) (h := ?_)
  case h17a => (have hpp := Nat.lt_of_lt_of_le z2 hwz.size; go_simp; try with_reducible rfl)
  refine Rg.op 18 (some 34) hS7 (v := ?v18a) (hy := fun wz hwz => ?h18a) (h := ?_)
  case h18a => (have hpp := Nat.lt_of_lt_of_le z2 hwz.size; go_simp; try with_reducible rfl)
  have hb7 := HB2.out.fr hS7 HNs.out
  have HB7 := Lib.hid hb7
  have hpb := hb7.lt
  have b6 := hb7.cell 6
  have q6' := hb7.frozen 6
  simp only [TS.cells, List.getElem?_toArray, List.getElem?_cons_zero, List.getElem?_cons_succ] at b6
  clear hb7
  refine Rg.store 19 (w' := ?w19a) (hrun := ?h19a) (hS := (fun h => absurd (by decide) h)) (h := ?_)
  case h19a => (go_simp; try with_reducible rfl)
  refine Rg.done _ (h := ?_)
  have hb9 := HB7.out.set_ 6 (.slice (some ⟨g7, 0, none⟩) (T.ss.length + 1) cap7)
  have hS9 : Fr (fun k => k = s) w7 (w7.setCell ⟨s, 6, none⟩ (.slice (some ⟨g7, 0, none⟩) (T.ss.length + 1) cap7)) := (Fr.refl (fun k => k = s) w7).setCell (p := ⟨s, 6, none⟩) (.inr rfl) _
  have ho9 := own_set (i := 6) (u := .slice (some ⟨g7, 0, none⟩) (T.ss.length + 1) cap7) HO7.out HB7.out (by decide)
  obtain ⟨w9, hw9⟩ : ∃ W, w7.setCell ⟨s, 6, none⟩ (.slice (some ⟨g7, 0, none⟩) (T.ss.length + 1) cap7) = W := ⟨_, rfl⟩
  rw [hw9] at hb9 hS9 ho9 ⊢
  have hf29 : Fr (fun k => k = s ∨ T.sv.ownBlock = some k) w2 w9 := (hS7.mono (fun _ _ e => .inr e.symm)).trans (hS9.mono (fun _ _ e => .inl e))
  have hcvn : ∀ g', T.cv.ownBlock = some g' → ¬ (g' = s ∨ T.sv.ownBlock = some g') := fun g' hg' e => by
    obtain ⟨cs1, hb1⟩ := own_blk H2.out.chg hg'
    rcases e with e | e
    · subst e
      exact Blk.ne_ (t := 93) (t' := 81) hb1 H2.out.blk (by decide) rfl
    · obtain ⟨cs2, hb2⟩ := own_blk H2.out.sav e
      exact Blk.ne_ (t := 93) (t' := 97) hb1 hb2 (by decide) rfl
  have h9 := H2.out.turn hf29 (fun b _ e => e.elim (fun e => e ▸ H2.out.rs) (H2.out.rv b)) T.busy T.cv (.slice (some ⟨g7, 0, none⟩) (T.ss.length + 1) cap7) T.cms (T.ss ++ [(la, n)]) la T.undone
    (by
      simp only [TS.cells, TS.cs, List.setIfInBounds_toArray, List.set_cons_zero, List.set_cons_succ] at hb9 ⊢
      rw [HLa.out] at hb9
      exact hb9)
    (own_fr H2.out.chg hf29 hcvn)
    (by rw [List.length_append, List.length_singleton, svCells_append, svCells_one]; exact ho9)
    (fun g hg => .inl (H2.out.rc g hg))
    (fun g hg => by
      rcases HA7.out with e | e
      · exact .inl (H2.out.rv g (e ▸ hg))
      · rw [e] at hg
        injection hg with hg
        have : w2.heap.size + 1 = (w2.drew.alloc (.cells #[.int .i64 la, .int .i64 n] 97)).heap.size := by simp
        exact .inr (by omega))
    (fun x hx => .inl hx) H2.out.n1 (by rw [List.length_append, List.length_singleton]; omega) (by have := HLa.out; omega) H2.out.n4
  have HH9 := Lib.hid h9
  have hw9z := hf29.size
  have hc9 := h9.cell 7
  have z9 := h9.blk.lt
  simp only [TS.cells, List.getElem?_toArray, List.getElem?_cons_zero, List.getElem?_cons_succ] at hc9
  have HF29 := Lib.hid hf29
  clear hb9 hS9 ho9 hf29 hcvn h9 b6 q6' hw9
  go_wp2
  go_ret2
  have hz2 := HF2.out.size
  refine ⟨rfl, ?_⟩
  try rw [HN.out]
  refine ⟨_, ⟨_, HH9.out⟩, fun b hb => ?_, fun b hb => .inl hb, fun b hb => .inl hb, ?_⟩
  · rcases hb with (hb | hb | hb) | hb | hb
    · exact .inl hb
    · exact .inl (HIn.out.rc b hb)
    · exact .inl (HIn.out.rv b hb)
    · exact .inl (HIn.out.rc b hb)
    · rcases HA7.out with e | e
      · exact .inl (HIn.out.rv b (e ▸ hb))
      · rw [e] at hb
        injection hb with hb
        have : w2.heap.size + 1 = (w2.drew.alloc (.cells #[.int .i64 la, .int .i64 n] 97)).heap.size := by simp
        exact .inr (by omega)
  · refine (HF2.out.mono (fun i _ e => .inl ((show i = s from e) ▸ HIn.out.rs))).step HF29.out (fun i hi e => ?_)
    rcases e with e | e
    · exact .inl (e ▸ HIn.out.rs)
    · exact .inl (HIn.out.rv i e)
end
end Go.Proofs.YtfapklpcgcgahaaGreatDoor

/-
  Back: to a save.
-/
namespace Go.Proofs.YtfapklpcgcgahaaGreatDoor
set_option linter.unusedSimpArgs false
set_option linter.unusedVariables false
open Go.RowKit Go.Maps

section
variable {RS RO U : Nat → Prop} {w : World} {s pages M K : Nat} {T : TS}
/-- What Back leaves. -/
def BackS (RS RO U : Nat → Prop) (w : World) (s pages M K : Nat) (T : TS) (id : Int) (e : Ending) (w' : World) : Prop :=
  (∃ i at_ RS' U' V' L' cv' sv', (∃ idn : Nat, T.ss[i]? = some (idn, at_) ∧ (idn : Int) = id) ∧ (∀ j y, j < i → T.ss[j]? = some y → (y.1 : Int) ≠ id) ∧ e = .returned (.int .i64 0) ∧
    TxIn RS' RO U' w' s pages (M + 2 * (T.cms.length - at_)) (K + (T.cms.length - at_)) { T with V := V', L := L', cv := cv', cms := T.cms.take at_, undone := T.undone + (T.cms.length - at_), ss := T.ss.take (i + 1), sv := sv' } ∧ (fun k => (V' k).d) = unTo T.cs at_ (fun k => (T.V k).d) ∧ L'.room + (needAll T.cs : Nat) = T.L.room + (needAll (T.cs.take at_) : Nat) ∧ L'.n = T.L.n ∧ Subs RS RS' RO RO U U' w w') ∨
  ((∀ y ∈ T.ss, (y.1 : Int) ≠ id) ∧ e = .returned (.int .i64 1) ∧ Fr Nob w w')
set_option maxHeartbeats 3200000 in
set_option maxRecDepth 100000 in
theorem BackS_tx (h : TxIn RS RO U w s pages M K T) (hbz : T.busy = true) (id : Int) (hats : ∀ x ∈ T.ss, x.2 ≤ T.cms.length) (hroom : ((needAll T.cs : Nat) : Int) ≤ T.L.room) (hK : K + T.cms.length ≤ 400000) (hM : M + 1000000 ≤ 1000000000000000000) :
    Calls Tryz.prog 25 #[.pointer (some ⟨s, 0, none⟩), .int .i64 id] w (BackS RS RO U w s pages M K T id) := by
  have qL : ∀ (w : World) (A : Option Addr) (n c : Nat), (Builtin.len_ #[79] 3 #[Value.slice A n c]).run Tryz.prog w = .ok (.int .i64 n) w := fun w A n c => by go_simp
  have hn2 := h.n2
  obtain ⟨A, c, hsv, hncap⟩ : ∃ A c, T.sv = .slice A T.ss.length c ∧ T.ss.length ≤ c := by
    rcases h.sav.2 with ⟨e, e2⟩ | ⟨g, cap, cur, e, _, _, h5, _⟩
    · exact ⟨none, 0, by rw [e2]; exact e, by omega⟩
    · exact ⟨_, _, e, h5⟩
  have c4 := h.cell 4
  have c6 := h.cell 6
  have zs := h.blk.lt
  simp only [TS.cells, List.getElem?_toArray, List.getElem?_cons_zero, List.getElem?_cons_succ, hbz, hsv] at c4 c6
  have HIn := Lib.hid h
  have HSv := Lib.hid hsv
  have HAts := Lib.hid hats
  have HRm := Lib.hid hroom
  obtain ⟨n, hn⟩ : ∃ n, T.ss.length = n := ⟨_, rfl⟩
  have HN := Lib.hid hn
  rw [hn] at c6 hncap hn2
  clear h hsv hats hroom hbz hn
  go_enter Tryz.func25, Tryz.ntmps25
  go_wp2_with fail
  go_loopw [17] (fun i wr => ∃ k : Nat, k ≤ n ∧ i = .int .i64 k ∧ Hid (∀ j y, j < k → T.ss[j]? = some y → (y.1 : Int) ≠ id) ∧ Hid (Fr Nob w wr)) (fun i _ => n - (intOf i).toNat)
  case atStart => exact ⟨0, Nat.zero_le _, rfl, fun j y hj => absurd hj (by omega), Fr.refl _ _⟩
  case round =>
    obtain ⟨k, hk, rfl, hno, hF⟩ := hrel
    by_cases hlt : k < n
    · have hkn : k < T.ss.length := by have := HN.out; omega
      obtain ⟨⟨idk, atk⟩, hx⟩ : ∃ x, T.ss[k]? = some x := ⟨_, List.getElem?_eq_getElem hkn⟩
      have h1 := HIn.out.new hF.out
      obtain ⟨gs, cur, rfl, hcb, hrow⟩ : ∃ gs cur, A = some ⟨gs, 0, none⟩ ∧ Blk wr gs 97 cur ∧ cur.toList.take (n * 2) = svCells T.ss := by
        rcases h1.sav.2 with ⟨_, e2⟩ | ⟨g, cap, cur, e, _, hh, _, _, _, ht⟩
        · have := HN.out; omega
        · have e := HSv.out.symm.trans e
          injection e with e1 e2 e3
          rw [HN.out] at ht
          exact ⟨g, cur, e1, hh, ht⟩
      have hg2 := svCells_get T.ss hx
      have r0 : wr.cell? ⟨gs, k * 2, none⟩ = some (.int .i64 idk) := by
        rw [hcb.cell, ← Array.getElem?_toList, ← hg2.1, ← hrow, List.getElem?_take, if_pos (by omega), Nat.mul_comm]
      have r1 : wr.cell? ⟨gs, k * 2 + 1, none⟩ = some (.int .i64 atk) := by
        rw [hcb.cell, ← Array.getElem?_toList, ← hg2.2, ← hrow, List.getElem?_take, if_pos (by omega), Nat.mul_comm]
      have hzg := hcb.lt
      have hkm : atk ≤ T.cms.length := HAts.out _ (List.mem_of_getElem? hx)
      have hfa : Fr Nob wr (wr.alloc (.cells #[.int .i64 idk, .int .i64 atk] 97)) := (Fr.refl _ wr).alloc _
      have hba : Blk (wr.alloc (.cells #[.int .i64 idk, .int .i64 atk] 97)) wr.heap.size 97 #[.int .i64 idk, .int .i64 atk] := Blk.new _ _ _
      obtain ⟨wa, hwa⟩ : ∃ W, wr.alloc (.cells #[.int .i64 idk, .int .i64 atk] 97) = W := ⟨_, rfl⟩
      obtain ⟨gx, hgx⟩ : ∃ g, wr.heap.size = g := ⟨_, rfl⟩
      rw [hwa] at hfa hba
      rw [hgx] at hba
      have ha := h1.new hfa
      have x0 := hba.cell 0
      have x1 := hba.cell 1
      have zx := hba.lt
      have a6 := ha.cell 6
      have q6 := ha.blk.frozen 6
      have za := ha.blk.lt
      simp only [TS.cells, List.getElem?_toArray, List.getElem?_cons_zero, List.getElem?_cons_succ, HSv.out, HN.out] at x0 x1 a6
      have hgxs : gx ≠ s := by have := h1.blk.lt; omega
      have HX := Lib.hid hx
      have HA := Lib.hid ha
      have HFa := Lib.hid (hF.out.trans hfa)
      have HBa := Lib.hid hba
      have hkc : k + 1 ≤ c := by omega
      clear h1 hcb hrow hg2 hx hfa hba ha
      by_cases heq : (idk : Int) = id
      · subst heq
        have hf3 : Fr (fun b => b = s) wa (wa.setCell ⟨s, 6, none⟩ (.slice (some ⟨gs, 0, none⟩) (k + 1) c)) := (Fr.refl (fun b => b = s) wa).setCell (p := ⟨s, 6, none⟩) (.inr rfl) _
        have hb3 := HA.out.blk.set_ 6 (.slice (some ⟨gs, 0, none⟩) (k + 1) c)
        have hlk : (T.ss.take (k + 1)).length = k + 1 := by rw [List.length_take, HN.out]; omega
        have hsk : wa.ownsRow 0 97 2 (.slice (some ⟨gs, 0, none⟩) (k + 1) c) (k + 1) (svCells (T.ss.take (k + 1))) := by
          have h5 := HA.out.sav
          rw [HSv.out, HN.out] at h5
          have h6 := own_take h5 (k + 1) (by omega)
          rwa [svCells_take] at h6
        have h3 := HA.out.turn hf3 (fun b _ e => (show b = s from e) ▸ HA.out.rs) T.busy T.cv (.slice (some ⟨gs, 0, none⟩) (k + 1) c) T.cms (T.ss.take (k + 1)) T.last T.undone
          (by simp only [TS.cells, TS.cs, List.setIfInBounds_toArray, List.set_cons_zero, List.set_cons_succ] at hb3 ⊢; exact hb3)
          (own_set HA.out.chg HA.out.blk (by decide)) (by rw [hlk]; exact own_set hsk HA.out.blk (by decide)) (fun g hg => .inl (HA.out.rc g hg))
          (fun g hg => .inl (HA.out.rv g (by rw [HSv.out]; exact hg))) (fun x hx => .inl hx) HA.out.n1 (by rw [hlk]; omega) HA.out.n3 HA.out.n4
        have hx3 := HBa.out.fr hf3 hgxs
        obtain ⟨w3, hw3⟩ : ∃ W, wa.setCell ⟨s, 6, none⟩ (.slice (some ⟨gs, 0, none⟩) (k + 1) c) = W := ⟨_, rfl⟩
        rw [hw3] at h3 hx3 hf3
        have y1 := hx3.cell 1
        have zy := hx3.lt
        simp only [List.getElem?_toArray, List.getElem?_cons_zero, List.getElem?_cons_succ] at y1
        have HBk := Lib.hid (Back_tx h3 atk hkm (by exact HRm.out) hK hM)
        have HF3 := Lib.hid hf3
        have H3 := Lib.hid h3
        clear hb3 hsk h3 hx3 hf3 hlk
        go_wp2_with fail
        refine HBk.out.mono ?_
        rintro e w4 ⟨rfl, A2, c2, hbk⟩
        obtain ⟨RS4, U4, V4, L4, h4, hv4, hr4, hn4, hs4⟩ := hbk.subs
        have hfin : BackS RS RO U w s pages M K T (idk : Int) (.returned (.int .i64 0)) w4 := by
          refine .inl ⟨k, atk, RS4, U4, V4, L4, _, _, ⟨idk, HX.out, rfl⟩, hno.out, rfl, h4, hv4, hr4, hn4, ?_⟩
          have h5 : Subs RS (fun b => RS b ∨ T.cv.ownBlock = some b ∨ (Value.slice (some ⟨gs, 0, none⟩) (k + 1) c).ownBlock = some b) RO RO U U w w3 := ⟨fun b hb => by
            rcases hb with hb | hb | hb
            · exact .inl hb
            · exact .inl (HIn.out.rc b hb)
            · exact .inl (HIn.out.rv b (by rw [HSv.out]; exact hb)), fun b hb => .inl hb, fun b hb => .inl hb, (HFa.out.mono (fun _ _ h => h.elim)).step HF3.out (fun i hi e => .inl ((show i = s from e) ▸ HIn.out.rs))⟩
          exact h5.trans hs4
        have HFin := Lib.hid hfin
        clear hbk h4 hv4 hr4 hn4 hs4 hfin
        go_wp2
        go_ret
        exact HFin.out
      · have hne1 : ¬ ((idk : Int) = id) := heq
        go_wp2
        go_roundw
        case rel =>
          refine ⟨k + 1, by omega, by go_num, ?_, HFa⟩
          intro j y hj hy
          rcases Nat.lt_or_ge j k with e | e
          · exact hno.out j y e hy
          · obtain rfl : j = k := by omega
            rw [HX.out] at hy
            injection hy with hy
            subst hy
            exact hne1
        case measure => simp [intOf]; omega
    · obtain rfl : k = n := by omega
      have hfin : BackS RS RO U w s pages M K T id (.returned (.int .i64 1)) wr := by
        refine .inr ⟨fun y hy => ?_, rfl, hF.out⟩
        obtain ⟨j, hj⟩ := List.mem_iff_getElem?.1 hy
        exact hno.out j y (by have := (List.getElem?_eq_some_iff.1 hj).1; have := HN.out; omega) hj
      have HFin := Lib.hid hfin
      clear hfin
      go_wp2
      go_ret
      exact HFin.out
end
end Go.Proofs.YtfapklpcgcgahaaGreatDoor
