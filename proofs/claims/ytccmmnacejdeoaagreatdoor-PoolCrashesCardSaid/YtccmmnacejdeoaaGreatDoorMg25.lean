/-
  Pool3, Pool5, PoolShelf, Pool6, in one text.
-/
import Derived.Test.YtccmmnacejdeoaaGreatDoorMg24
import Derived.Shelf.Slices.Delete
import Derived.Test.YtccmmnacejdeoaaGreatDoorMg23
import Derived.Test.YtccmmnacejdeoaaGreatDoorMg19
/-
  drop, of a page whose number stands in the map alone (the map's part).
-/
namespace Go.Proofs.YtccmmnacejdeoaaGreatDoor
set_option linter.unusedSimpArgs false
set_option linter.unusedVariables false
open Go.RowKit Go.Maps

theorem key_law : Keyed Tryz.prog 3 := int_keyed Tryz.underlying3
theorem key_of (y : Int) (h0 : -9223372036854775808 ≤ y) (h1 : y ≤ 9223372036854775807) : keyOf Tryz.prog 3 (.int .i64 y) = some (.int .i64 y) :=
  keyOf_int_mk Tryz.underlying3 (WalkArith.wf_i64 (by omega))
end Go.Proofs.YtccmmnacejdeoaaGreatDoor

/-
  hold: a page is held.
-/
namespace Go.Proofs.YtccmmnacejdeoaaGreatDoor
set_option linter.unusedSimpArgs false
set_option linter.unusedVariables false
open Go.RowKit Go.Maps

theorem info_intq : (Tryz.prog.info? 3).map (fun i => (i.zero, i.size, i.bytes)) = some (some (.int .i64 0), 1, 8) := by kernel_rfl
theorem keylit (y : Int) : WideAt.IsKeyLit (.int .i64 y) := by
  first | trivial | exact True.intro | (unfold WideAt.IsKeyLit; trivial) | simp [WideAt.IsKeyLit]
section
variable {RP RQ : Nat → Prop} {w w9 : World} {p f l B : Nat} {frames hand : Int} {rv rv' : Value} {fs : List (Nat × Frm)}
/-- What hold leaves. -/
theorem PoolAt.held (h : PoolAt RP RQ w p f l frames hand B rv fs) {x : PgV} {dirty : Bool} {gb kb ko c : Nat} (hlen : (fs.length : Int) < frames) (hn : ∀ y ∈ fs, y.2.x.no ≠ x.no)
    (h9 : Fr (fun b => b = p ∨ b = B ∨ some b = rv.ownBlock) w w9)
    (hb : Blk w9 p 69 #[.pointer (some ⟨f, 0, none⟩), .pointer (some ⟨l, 0, none⟩), .int .i64 frames, .map (some B), rv', .int .i64 hand])
    (hm : FrMap w9 Tryz.prog 3 B (fs.length + 1) (upd (heldAt (ksOf fs)) x.no (some gb)))
    (ho : w9.ownsRow 0 3 1 rv' (fs.length + 1) (nosOf fs ++ [.int .i64 x.no]))
    (ha : ∀ g, rv'.ownBlock = some g → rv.ownBlock = some g ∨ w.heap.size ≤ g)
    (hg : Blk w9 gb 75 #[.int .i64 x.no, .int .u64 x.lsn, .slice (some ⟨kb, ko, none⟩) 480 c, .bool dirty, .bool true]) (hgb : w.heap.size ≤ gb) (hk : Bsl w (some ⟨kb, ko, none⟩) c x.d) (hkb : ¬ RP kb) :
    PoolAt (fun b => RP b ∨ (w.heap.size ≤ b ∧ b < w9.heap.size)) (fun b => RQ b ∨ b = kb) w9 p f l frames hand B rv' (fs ++ [(gb, ⟨x, dirty, true⟩)]) := by
  have hkl := hk.lt _ rfl
  have hkl : kb < w.heap.size := hkl
  have hs := h9.size
  have hcl : ∀ b, (b = p ∨ b = B ∨ some b = rv.ownBlock) → RP b := fun b hb => by
    rcases hb with rfl | rfl | hb
    · exact h.rp
    · exact h.rB
    · exact h.rA b hb.symm
  exact {
    blk := hb
    map := by rw [ksOf_append, List.length_append, List.length_singleton, heldAt_append (fun k hk e => by
      unfold ksOf at hk
      obtain ⟨y, hy, rfl⟩ := List.mem_map.1 hk
      exact hn y hy e)]; exact hm
    rnd := by
      rw [List.length_append, List.length_singleton]
      unfold nosOf
      rw [ksOf_append, List.map_append]
      exact ho
    frm := fun y hy => by
      rcases List.mem_append.1 hy with hy | hy
      · refine ((h.frm y hy).fr h9 (fun e => ?_) (fun k hk e => h.ap k (hcl k e) hk)).more (fun _ h => .inl h) (fun _ h => .inl h)
        obtain ⟨cs, hcs⟩ := (h.frm y hy).blk
        rcases e with e | e | e
        · exact Blk.ne_ h.blk hcs (by decide) e.symm
        · exact h.map.blk_ne hcs e
        · exact own_ne_of h.rnd e.symm hcs (by decide) rfl
      · rw [List.mem_singleton] at hy
        subst hy
        exact ⟨.inr ⟨hgb, hg.lt⟩, kb, ko, c, .inr rfl, hg, hk.fr h9 (fun a ha e => by injection ha with ha; subst ha; exact hkb (hcl kb e))⟩
    dis := by
      rw [ksOf_append, List.map_append, List.nodup_append]
      refine ⟨h.dis, by simp, fun a ha b hb e => ?_⟩
      simp only [List.map_cons, List.map_nil, List.mem_singleton] at hb
      obtain ⟨k, hk, rfl⟩ := List.mem_map.1 ha
      unfold ksOf at hk
      obtain ⟨y, hy, rfl⟩ := List.mem_map.1 hk
      exact hn y hy (e.trans hb)
    rp := .inl h.rp
    rB := .inl h.rB
    rA := fun g hg => by
      rcases ha g hg with e | e
      · exact .inl (h.rA g e)
      · refine .inr ⟨e, ?_⟩
        exact own_lt ho hg
    ap := fun b hb hq => by
      rcases hb with hb | hb
      · rcases hq with hq | rfl
        · exact h.ap b hb hq
        · exact hkb hb
      · rcases hq with hq | rfl
        · have := h.ltq b hq; omega
        · omega
    lt := fun b hb => by
      rcases hb with hb | hb
      · have := h.lt b hb; omega
      · exact hb.2
    ltq := fun b hb => by
      rcases hb with hb | rfl
      · have := h.ltq b hb; omega
      · omega
    len := by rw [List.length_append, List.length_singleton]; omega
    f0 := h.f0
    f1 := h.f1
    h0 := h.h0
    h1 := h.h1 }

set_option maxHeartbeats 3200000 in
set_option maxRecDepth 100000 in
theorem hold_any (h : PoolAt RP RQ w p f l frames hand B rv fs) (x : PgV) (dirty : Bool) (kb ko c : Nat) (hk : Bsl w (some ⟨kb, ko, none⟩) c x.d) (hkb : ¬ RP kb) (hlen : (fs.length : Int) < frames) (hn : ∀ y ∈ fs, y.2.x.no ≠ x.no) (hno : x.no < 100000) :
    Calls Tryz.prog 26 #[.pointer (some ⟨p, 0, none⟩), .agg #[.int .i64 x.no, .int .u64 x.lsn, .slice (some ⟨kb, ko, none⟩) 480 c], .bool dirty] w fun e w' => e = .returned (.tuple #[]) ∧ ∃ rv' gb,
      PoolAt (fun b => RP b ∨ (w.heap.size ≤ b ∧ b < w'.heap.size)) (fun b => RQ b ∨ b = kb) w' p f l frames hand B rv' (fs ++ [(gb, ⟨x, dirty, true⟩)]) ∧ Fr (fun b => b = p ∨ b = B ∨ some b = rv.ownBlock) w w' := by
  obtain ⟨i0, hi0, hz0, hz1, hz2⟩ := info_parts info_intq
  have H := Lib.hid h
  have HK := Lib.hid hk
  have HN := Lib.hid hn
  have HKl := Lib.hid (keylit (x.no : Int))
  have hf64 := h.f1
  have HNone : Hid (heldAt (ksOf fs) (x.no : Int) = none) := heldAt_none (fun k hk e => by
    unfold ksOf at hk
    obtain ⟨y, hy, rfl⟩ := List.mem_map.1 hk
    exact hn y hy (by have e : (y.2.x.no : Int) = x.no := e; omega))
  obtain ⟨gx, hgx⟩ : ∃ g, w.heap.size = g := ⟨_, rfl⟩
  have HGx := Lib.hid hgx
  have hfa : Fr Nob w (w.alloc (.cells #[.int .i64 x.no, .int .u64 x.lsn, .slice (some ⟨kb, ko, none⟩) 480 c] 40)) := (Fr.refl _ w).alloc _
  have hbx : Blk (w.alloc (.cells #[.int .i64 x.no, .int .u64 x.lsn, .slice (some ⟨kb, ko, none⟩) 480 c] 40)) gx 40 #[.int .i64 x.no, .int .u64 x.lsn, .slice (some ⟨kb, ko, none⟩) 480 c] := by rw [← hgx]; exact Blk.new _ _ _
  obtain ⟨wa, hwa⟩ : ∃ W, w.alloc (.cells #[.int .i64 x.no, .int .u64 x.lsn, .slice (some ⟨kb, ko, none⟩) 480 c] 40) = W := ⟨_, rfl⟩
  rw [hwa] at hfa hbx
  have HFa := Lib.hid hfa
  have HBx := Lib.hid hbx
  have HMap := Lib.hid (h.map.fr hfa (fun h => h))
  have hba := h.blk.fr hfa (fun h => h)
  have HBa := Lib.hid hba
  have z0 := hba.lt
  have zx := hbx.lt
  have c3 := hba.cell 3
  have x0 := hbx.cell 0
  have hxg : ¬ gx < w.heap.size := by omega
  simp only [List.getElem?_toArray, List.getElem?_cons_zero, List.getElem?_cons_succ] at c3 x0
  clear h hk hn hfa hbx hba
  go_enter Tryz.func26, Tryz.ntmps26
  go_wp2
  clear hwa hgx
  have hS : Fr Nob wa wa.drew := (Fr.refl _ wa).drew
  refine Rg.begin (Fr Nob wa) [10] (by kernel_rfl) ?_
  refine Rg.op 0 (some 6) hS (v := ?v0a) (hy := fun wz hwz => ?h0a) (h := ?_)
  case h0a => (go_simp; try with_reducible rfl)
  refine Rg.op 1 (some 7) hS (v := ?v1a) (hy := fun wz hwz => ?h1a) (h := ?_)
  case h1a => (have hpp := Nat.lt_of_lt_of_le z0 hwz.size; go_simp; try with_reducible rfl)
  refine Rg.op 2 (some 8) hS (v := ?v2a) (hy := fun wz hwz => ?h2a) (h := ?_)
  case h2a => (have hpp := Nat.lt_of_lt_of_le z0 hwz.size; go_simp; try with_reducible rfl)
  refine Rg.op 3 (some 9) hS (v := (.map (some B))) (hy := fun wz hwz => ?h3a) (h := ?_)
  case h3a => (have cx := (hwz.cell (p := ⟨p, 3, none⟩) z0 (fun h => h)).trans c3; have hpp := Nat.lt_of_lt_of_le z0 hwz.size; go_simp; try with_reducible rfl)
  refine Rg.op 4 (some 10) hS (v := ?v4a) (hy := fun wz hwz => ?h4a) (h := ?_)
  case h4a => (go_simp; try with_reducible rfl)
  refine Rg.op 5 (some 11) hS (v := (.int .i64 x.no)) (hy := fun wz hwz => ?h5a) (h := ?_)
  case h5a => (have cx := (hwz.cell (p := ⟨gx, 0, none⟩) zx (fun h => h)).trans x0; have hpp := Nat.lt_of_lt_of_le zx hwz.size; go_simp; try with_reducible rfl)
  refine Rg.op 6 (some 12) hS (v := (.agg #[.int .i64 x.no, .int .u64 x.lsn, .slice (some ⟨kb, ko, none⟩) 480 c])) (hy := fun wz hwz => ?h6a) (h := ?_)
  case h6a => (exact op_load_mid _ _ rfl gx 0 rfl [.int .i64 x.no, .int .u64 x.lsn, .slice (some ⟨kb, ko, none⟩) 480 c] _ (rangeAt_of (HBx.out.fr hwz (fun h => h)) _ (fun j v hv => by rw [Nat.zero_add]; simpa using hv)) Tryz.underlying40 rfl page_size)
  refine Rg.op 7 (some 13) hS (v := ?v7a) (hy := fun wz hwz => ?h7a) (h := ?_)
  case h7a => (go_simp; try with_reducible rfl)
  refine Rg.op 8 (some 14) hS (v := (.agg #[.int .i64 x.no, .int .u64 x.lsn, .slice (some ⟨kb, ko, none⟩) 480 c, .bool dirty, .bool true])) (hy := fun wz hwz => ?h8a) (h := ?_)
  case h8a => (go_simp; try with_reducible rfl)
  have hSb : Fr Nob wa ((wa.alloc (.cells #[.int .i64 x.no, .int .u64 x.lsn, .slice (some ⟨kb, ko, none⟩) 480 c, .bool dirty, .bool true] 75)).drew) := hS.alloc _
  refine Rg.run 9 (some 15) (v := (.pointer (some ⟨wa.heap.size, 0, none⟩))) (w' := ((wa.alloc (.cells #[.int .i64 x.no, .int .u64 x.lsn, .slice (some ⟨kb, ko, none⟩) 480 c, .bool dirty, .bool true] 75)).drew)) (hrun := ?h9a) (hS := (fun _ => hSb)) (h := ?_)
  case h9a => (go_simp; try with_reducible rfl)
  have HMb : Hid (FrMap ((wa.alloc (.cells #[.int .i64 x.no, .int .u64 x.lsn, .slice (some ⟨kb, ko, none⟩) 480 c, .bool dirty, .bool true] 75)).drew) Tryz.prog 3 B fs.length (heldAt (ksOf fs))) := HMap.out.fr hSb (fun h => h)
  obtain ⟨wm, hrm, hmm, hgm⟩ := HMb.out.run_put key_law Tryz.underlying67 (by unfold maxLen; omega) (x.no : Int) (key_of _ (by omega) (by omega)) HKl.out wa.heap.size HNone.out
  have HM1 := Lib.hid hmm
  have HG1 := Lib.hid hgm
  clear hmm hgm
  refine Rg.store 10 (w' := (wm)) (hrun := ?h10a) (hS := (fun h => absurd (by decide) h)) (h := ?_)
  case h10a => (go_simp; try with_reducible rfl)
  refine Rg.done _ (h := ?_)
  have HFm : Hid (Fr (fun k => k = B) wa wm) := (hSb.mono (fun _ _ h => h.elim) : Fr (fun k => k = B) wa _).grown HG1.out (fun k e => .inr (by injection e with e; exact e.symm))
  have HGb : Hid (Blk wm wa.heap.size 75 #[.int .i64 x.no, .int .u64 x.lsn, .slice (some ⟨kb, ko, none⟩) 480 c, .bool dirty, .bool true]) := by
    have hb := Blk.new wa.drew 75 #[.int .i64 x.no, .int .u64 x.lsn, .slice (some ⟨kb, ko, none⟩) 480 c, .bool dirty, .bool true]
    exact hb.grown HG1.out (fun e => by
      have e : wa.heap.size = B := by injection e
      have := HMap.out.lt; omega)
  have hpB : p ≠ B := HMap.out.blk_ne HBa.out
  have hxB : gx ≠ B := HMap.out.blk_ne HBx.out
  have hbm := HBa.out.fr HFm.out (fun e => hpB e)
  have hbxm := HBx.out.fr HFm.out (fun e => hxB e)
  have HBm := Lib.hid hbm
  have HBxm := Lib.hid hbxm
  have HOm : Hid (wm.ownsRow 0 3 1 rv fs.length (nosOf fs)) := own_fr (own_fr H.out.rnd HFa.out (fun _ _ h => h)) HFm.out (fun g hg e => by
    have e : g = B := e
    have := own_ne_map H.out.rnd hg H.out.map
    exact this e)
  have HNp : Hid (¬ some p = rv.ownBlock) := fun e => own_ne_of H.out.rnd e.symm H.out.blk (by decide) rfl
  have HNx : Hid (¬ some gx = rv.ownBlock) := fun e => by have := own_lt H.out.rnd e.symm; exact hxg this
  have zm := hbm.lt
  have zmx := hbxm.lt
  have m4 := hbm.cell 4
  have mx0 := hbxm.cell 0
  simp only [List.getElem?_toArray, List.getElem?_cons_zero, List.getElem?_cons_succ] at m4 mx0
  clear hbm hbxm c3 x0 z0 zx hrm hSb hS hpB hxB
  go_wp2
  have hT : Fr (fun k => some k = rv.ownBlock) wm wm.drew := (Fr.refl _ wm).drew
  refine Rg.begin' (Fr (fun k => some k = rv.ownBlock) wm) [11] (by kernel_rfl) ?_
  refine Rg.op 0 (some 16) hT (v := ?v0b) (hy := fun wz hwz => ?h0b) (h := ?_)
  case h0b => (go_simp; try with_reducible rfl)
  refine Rg.op 1 (some 17) hT (v := ?v1b) (hy := fun wz hwz => ?h1b) (h := ?_)
  case h1b => (go_simp; try with_reducible rfl)
  refine Rg.op 2 (some 18) hT (v := ?v2b) (hy := fun wz hwz => ?h2b) (h := ?_)
  case h2b => (have hpp := Nat.lt_of_lt_of_le zm hwz.size; go_simp; try with_reducible rfl)
  refine Rg.op 3 (some 19) hT (v := ?v3b) (hy := fun wz hwz => ?h3b) (h := ?_)
  case h3b => (have hpp := Nat.lt_of_lt_of_le zm hwz.size; go_simp; try with_reducible rfl)
  refine Rg.op 4 (some 20) hT (v := (rv)) (hy := fun wz hwz => ?h4b) (h := ?_)
  case h4b => (have cx := (hwz.cell (p := ⟨p, 4, none⟩) zm HNp.out).trans m4; have hpp := Nat.lt_of_lt_of_le zm hwz.size; go_simp; try with_reducible rfl)
  refine Rg.op 5 (some 21) hT (v := ?v5b) (hy := fun wz hwz => ?h5b) (h := ?_)
  case h5b => (go_simp; try with_reducible rfl)
  refine Rg.op 6 (some 22) hT (v := (.int .i64 x.no)) (hy := fun wz hwz => ?h6b) (h := ?_)
  case h6b => (have cx := (hwz.cell (p := ⟨gx, 0, none⟩) zmx HNx.out).trans mx0; have hpp := Nat.lt_of_lt_of_le zmx hwz.size; go_simp; try with_reducible rfl)
  have hSa : Fr (fun k => some k = rv.ownBlock) wm (wm.drew.alloc (.cells #[.int .i64 x.no] 3)) := hT.alloc _
  refine Rg.run 7 (some 23) (v := (.slice (some ⟨wm.heap.size, 0, none⟩) 1 1)) (w' := (wm.drew.alloc (.cells #[.int .i64 x.no] 3))) (hrun := ?h7b) (hS := (fun _ => hSa)) (h := ?_)
  case h7b => (go_simp; try with_reducible rfl)
  have hOb : (wm.drew.alloc (.cells #[.int .i64 x.no] 3)).ownsRow 0 3 1 rv fs.length (nosOf fs) := HOm.out.alloc _
  have hNw : ∀ (j : Nat) u, ([.int .i64 x.no] : List Value)[j]? = some u → (wm.drew.alloc (.cells #[.int .i64 x.no] 3)).cell? ((⟨wm.heap.size, 0, none⟩ : Addr).add j) = some u := fun j u hu => by
    have hb := Blk.new wm.drew 3 #[.int .i64 x.no]
    rw [Addr.add_mid, Nat.zero_add]; exact (hb.cell j).trans (by simpa using hu)
  obtain ⟨v7, w7, hr7, hown7, hg7, hn7, hat7⟩ := run_append_own_at (P := Tryz.prog) (wm.drew.alloc (.cells #[.int .i64 x.no] 3)) 0 55 55 3 i0 (.int .i64 0) 1 8 Tryz.underlying55 hi0 hz0 hz1 hz2 rfl (by decide) rv fs.length (nosOf fs) hOb ⟨wm.heap.size, 0, none⟩ 1 1 [.int .i64 x.no] rfl hNw (by intro u hu; simp only [List.mem_cons, List.not_mem_nil, or_false] at hu; subst hu; rfl) (by unfold maxLen; omega) (by omega) (Nat.zero_le _)
  obtain ⟨g7, cap7, rfl, _⟩ := hown7.form (by omega)
  have HR7 := Lib.hid hr7
  have HO7 := Lib.hid hown7
  have HA7 := Lib.hid hat7
  have hS7 : Fr (fun k => some k = rv.ownBlock) wm w7 := hSa.grown hg7 (fun k hk => .inr hk.symm)
  clear hr7 hown7 hat7 hg7 hNw hOb hn7
  refine Rg.run 8 (some 24) (v := (.slice (some ⟨g7, 0, none⟩) (fs.length + 1) cap7)) (w' := (w7)) (hrun := ?h8b) (hS := (fun _ => hS7)) (h := ?_)
  case h8b => exact run_opAppend (.tmp 20) (.tmp 23) 55 55 rv (.slice (some ⟨wm.heap.size, 0, none⟩) 1 1) rfl rfl rfl rfl HR7.out
  refine Rg.op 9 (some 25) hS7 (v := ?v9b) (hy := fun wz hwz => ?h9b) (h := ?_)
  case h9b => (have hpp := Nat.lt_of_lt_of_le zm hwz.size; go_simp; try with_reducible rfl)
  refine Rg.op 10 (some 26) hS7 (v := ?v10b) (hy := fun wz hwz => ?h10b) (h := ?_)
  case h10b => (have hpp := Nat.lt_of_lt_of_le zm hwz.size; go_simp; try with_reducible rfl)
  have hb7 := HBm.out.fr hS7 HNp.out
  have HB7 := Lib.hid hb7
  have hpb := hb7.lt
  have b4 := hb7.cell 4
  have q4 := hb7.frozen 4
  simp only [List.getElem?_toArray, List.getElem?_cons_zero, List.getElem?_cons_succ] at b4
  clear hb7
  refine Rg.store 11 (w' := ?w11b) (hrun := ?h11b) (hS := (fun h => absurd (by decide) h)) (h := ?_)
  case h11b => (go_simp; try with_reducible rfl)
  refine Rg.done _ (h := ?_)
  have hb9 := HB7.out.set_ 4 (.slice (some ⟨g7, 0, none⟩) (fs.length + 1) cap7)
  generalize hW : (w7.setCell ⟨p, 4, none⟩ (.slice (some ⟨g7, 0, none⟩) (fs.length + 1) cap7)) = w9 at *
  have HB9 := Lib.hid hb9
  have hS9 : Fr (fun k => k = p) w7 w9 := by rw [← hW]; exact (Fr.refl (fun k => k = p) w7).setCell (p := ⟨p, 4, none⟩) (.inr rfl) _
  have HS9 := Lib.hid hS9
  have HS7 := Lib.hid hS7
  clear hb9 hS9 hW
  go_wp2
  go_end0
  refine ⟨rfl, (.slice (some ⟨g7, 0, none⟩) (fs.length + 1) cap7), wa.heap.size, ?_⟩
  have hgbn : wa.heap.size ≠ p := fun e => by have := HBa.out.lt; omega
  have hF : Fr (fun b => b = p ∨ b = B ∨ some b = rv.ownBlock) w w9 :=
    (((HFa.out.mono (fun _ _ h => h.elim) : Fr (fun b => b = p ∨ b = B ∨ some b = rv.ownBlock) w wa).step HFm.out (fun _ _ e => .inr (.inl e))).step HS7.out (fun _ _ e => .inr (.inr e))).step HS9.out (fun _ _ e => .inl e)
  have hpB : p ≠ B := H.out.map.blk_ne H.out.blk
  have hBo : ¬ some B = rv.ownBlock := fun e => own_ne_map H.out.rnd e.symm H.out.map rfl
  refine ⟨H.out.held hlen HN.out hF HB9.out ((HM1.out.fr HS7.out hBo).fr HS9.out (fun e => hpB e.symm)) (own_fr HO7.out HS9.out (fun g hg e => ?_)) (fun g hg => ?_) ((HGb.out.fr HS7.out (fun e => ?_)).fr HS9.out hgbn) (by have := HFa.out.size; omega) HK.out hkb, hF⟩
  · have hb7 := HB7.out
    exact own_ne_of HO7.out hg hb7 (by decide) e.symm
  · rcases HA7.out with e | e
    · exact .inl (by rw [← e]; exact hg)
    · rw [hg] at e
      injection e with e
      right
      have h1 := HFa.out.size
      have h2 := HFm.out.size
      simp at e
      omega
  · have := own_lt H.out.rnd e.symm
    have h1 := HFa.out.size
    omega
end
end Go.Proofs.YtccmmnacejdeoaaGreatDoor

/-
  The library's slices.Delete over whole numbers, laid at this dump by the shelf's own print.
-/
namespace Go.Proofs.YtccmmnacejdeoaaGreatDoor
set_option linter.unusedSimpArgs false
set_option linter.unusedVariables false
open Go.Shelf
def delRen : Go.Shelf.Ren := ⟨fun | 23 => 53 | n => n, fun | 22 => 55 | 3 => 3 | 4 => 4 | 0 => 0 | n => n, fun | n => n⟩
theorem delLays : Go.Proofs.Lays2.n23 Tryz.prog delRen := {
  mixed := by kernel_rfl
  f23 := Tryz.func53.trans (congrArg some (by kernel_rfl))
  t0 := Tryz.underlying0
  a0 := Tryz.isAgg0
  z0 := Tryz.sizeOf0
  v0 := Tryz.zeroValue0
  t3 := Tryz.underlying3
  a3 := Tryz.isAgg3
  z3 := Tryz.sizeOf3
  v3 := Tryz.zeroValue3
  t4 := Tryz.underlying4
  a4 := Tryz.isAgg4
  z4 := Tryz.sizeOf4
  v4 := Tryz.zeroValue4
  t22 := Tryz.underlying55
  a22 := Tryz.isAgg55
  z22 := Tryz.sizeOf55
  v22 := Tryz.zeroValue55
  i3 := by kernel_rfl }
open Go.RowKit Go.Lib Go.Sort in
/-- slices.Delete at []int. -/
theorem Delete_lay (blk off cap i j : Nat) (zs : List Int) (w : World) (hH : Holds (Value.int .i64) w blk off zs.toArray) (hcap : zs.length ≤ cap) (hm : cap ≤ 9223372036854775807) (hij : i ≤ j) (hj : j ≤ zs.length) :
    Calls Tryz.prog 53 #[.slice (some ⟨blk, off, none⟩) zs.length cap, .int .i64 i, .int .i64 j] w fun e w' => e = .returned (.slice (some ⟨blk, off, none⟩) (zs.length - (j - i)) cap) ∧ ∃ q, w' = putRow (Value.int .i64) (Sort.ahead w q) blk off (zs.take i ++ zs.drop j ++ List.replicate (j - i) 0).toArray := Any.slices_Delete_int delLays blk off cap i j zs w hH hcap hm hij hj

open Go.RowKit
theorem putRow_blk {w : World} {g : Nat} {t : TypeId} {cur : Array Value} {zs : List Int} (q : Nat) (hb : Blk w g t cur) : Blk (Sort.putRow (Value.int .i64) (Sort.ahead w q) g 0 zs.toArray) g t (Sort.putCells (Value.int .i64) 0 zs.toArray cur) ∧ Fr (fun k => k = g) w (Sort.putRow (Value.int .i64) (Sort.ahead w q) g 0 zs.toArray) := by
  have e : ∀ k, (Sort.putRow (Value.int .i64) (Sort.ahead w q) g 0 zs.toArray).heap[k]? = if g = k then (w.heap[k]?).map (Sort.onCells (Sort.putCells (Value.int .i64) 0 zs.toArray)) else w.heap[k]? := fun k => by
    show (w.heap.modify g _)[k]? = _
    rw [Array.getElem?_modify]
  refine ⟨?_, rfl, rfl, rfl, ?_, fun k _ hk => ?_⟩
  · unfold Blk at hb ⊢
    rw [e, if_pos rfl, hb]; rfl
  · show _ ≤ (w.heap.modify g _).size
    simp
  · rw [e, if_neg (fun h => hk h.symm)]
/-- .. of a row that one has: one element away. -/
theorem Delete_own {w : World} {rv : Value} (zs : List Int) (i : Nat) (ho : w.ownsRow 0 3 1 rv zs.length (zs.map fun z => .int .i64 z)) (hi : i < zs.length) :
    ∃ A c, rv = .slice A zs.length c ∧ Calls Tryz.prog 53 #[.slice A zs.length c, .int .i64 i, .int .i64 (i + 1 : Nat)] w fun e w' => ∃ g cp, e = .returned (.slice (some ⟨g, 0, none⟩) (zs.length - 1) cp) ∧ rv.ownBlock = some g ∧ w'.ownsRow 0 3 1 (.slice (some ⟨g, 0, none⟩) (zs.length - 1) cp) (zs.length - 1) ((zs.eraseIdx i).map fun z => .int .i64 z) ∧ Fr (fun k => some k = rv.ownBlock) w w' := by
  rcases ho.2 with ⟨_, h0⟩ | ⟨g, cap, cur, rfl, _, hb, h1, h2, h3, h4⟩
  · omega
  · refine ⟨_, _, rfl, ?_⟩
    have hb : Blk w g 3 cur := hb
    have hcur : ∀ (j : Nat), j < zs.length → cur[j]? = (zs[j]?).map fun z => Value.int .i64 z := fun j hj => by
      have := congrArg (fun l => l[j]?) h4
      simp only [List.getElem?_take, Nat.mul_one, if_pos hj, Array.getElem?_toList, List.getElem?_map] at this
      exact this
    have hH : Sort.Holds (Value.int .i64) w g 0 zs.toArray := fun j hj => by
      have hj : j < zs.length := by simpa using hj
      refine ⟨?_, hb.frozen _⟩
      rw [Nat.zero_add, hb.cell, hcur j hj, List.getElem?_eq_getElem hj, Option.map_some]
      rw [getElem!_pos zs.toArray j (by simpa using hj)]
      simp
    refine (Delete_lay g 0 cap i (i + 1) zs w hH h1 (by unfold maxLen at h2; omega) (by omega) (by omega)).mono ?_
    rintro e w' ⟨rfl, q, rfl⟩
    obtain ⟨b1, b2⟩ := putRow_blk (zs := zs.take i ++ zs.drop (i + 1) ++ List.replicate (i + 1 - i) 0) q hb
    refine ⟨g, cap, by rw [show zs.length - (i + 1 - i) = zs.length - 1 from by omega], rfl, ⟨by rw [List.length_map, List.length_eraseIdx, if_pos hi, Nat.mul_one], .inr ⟨g, cap, _, rfl, Nat.zero_le _, b1, by omega, h2, ?_, ?_⟩⟩, b2.mono (fun k _ e => by rw [e]; rfl)⟩
    · rw [← h3]; simp [Sort.putCells]
    · refine List.ext_getElem? (fun j => ?_)
      rw [List.getElem?_take, Nat.mul_one, List.getElem?_map]
      by_cases hj : j < zs.length - 1
      · rw [if_pos hj, Array.getElem?_toList]
        unfold Sort.putCells
        rw [Array.getElem?_mapIdx, hcur j (by omega), List.getElem?_eq_getElem (by omega : j < zs.length)]
        have hl : (zs.take i ++ zs.drop (i + 1) ++ List.replicate (i + 1 - i) 0).length = zs.length := by simp; omega
        simp only [Option.map_some]
        rw [if_pos ⟨Nat.zero_le _, by simp only [List.size_toArray, hl]; omega⟩]
        have hjl : j < (zs.eraseIdx i).length := by rw [List.length_eraseIdx, if_pos hi]; exact hj
        rw [List.getElem?_eq_getElem hjl, Option.map_some]
        rw [getElem!_pos _ (j - 0) (by simp only [List.size_toArray, hl]; omega)]
        congr 2
        simp only [List.getElem_toArray, Nat.sub_zero]
        rw [List.getElem_append_left (by simp; omega)]
        have := List.eraseIdx_eq_take_drop_succ zs i
        simp only [this]
      · rw [if_neg hj, List.getElem?_eq_none (by rw [List.length_eraseIdx, if_pos hi]; omega)]; rfl
end Go.Proofs.YtccmmnacejdeoaaGreatDoor

/-
  drop: a page is held no more.
-/
namespace Go.Proofs.YtccmmnacejdeoaaGreatDoor
set_option linter.unusedSimpArgs false
set_option linter.unusedVariables false
open Go.RowKit Go.Maps

def numsOf (fs : List (Nat × Frm)) : List Int := (ksOf fs).map fun k => (k.2 : Int)
theorem nosOf_nums (fs : List (Nat × Frm)) : nosOf fs = (numsOf fs).map fun z => .int .i64 z := by simp [nosOf, numsOf]
theorem numsOf_length (fs : List (Nat × Frm)) : (numsOf fs).length = fs.length := by simp [numsOf, ksOf]
theorem map_eraseIdx' {α β : Type} (g : α → β) (l : List α) (i : Nat) : (l.eraseIdx i).map g = (l.map g).eraseIdx i := by
  induction l generalizing i with
  | nil => rfl
  | cons y l ih => cases i with
    | zero => rfl
    | succ i => simp only [List.eraseIdx_cons_succ, List.map_cons, ih]
theorem numsOf_erase (fs : List (Nat × Frm)) (i : Nat) : numsOf (fs.eraseIdx i) = (numsOf fs).eraseIdx i := by
  unfold numsOf
  rw [ksOf_erase, map_eraseIdx']
theorem numsOf_get {fs : List (Nat × Frm)} {i b : Nat} {m : Frm} (h : fs[i]? = some (b, m)) : (numsOf fs)[i]? = some (m.x.no : Int) := by
  unfold numsOf
  rw [List.getElem?_map, ksOf_of h]; rfl
theorem mapif_zero (w : World) : (zeroValue 71).run Tryz.prog w = .ok (.pointer none) w := by
  first | exact Tryz.zeroValue71 w | (simp [Tryz.zeroValue71]) | (rw [Tryz.zeroValue71])

section
variable {RP RQ : Nat → Prop} {w w9 : World} {p f l B : Nat} {frames hand : Int} {rv rv' : Value} {fs : List (Nat × Frm)}
theorem PoolAt.idx (h : PoolAt RP RQ w p f l frames hand B rv fs) {i b : Nat} {m : Frm} (hi : fs[i]? = some (b, m)) : idxOf (m.x.no : Int) (numsOf fs) = i := by
  have hl : i < (numsOf fs).length := by rw [numsOf_length]; exact (List.getElem?_eq_some_iff.1 hi).1
  have hg := numsOf_get hi
  rw [List.getElem?_eq_getElem hl] at hg
  injection hg with hg
  refine idxOf_at hl hg.symm (fun j hj e => ?_)
  have hjl : j < fs.length := by have := (List.getElem?_eq_some_iff.1 hi).1; omega
  have hj2 := numsOf_get (fs := fs) (i := j) (b := fs[j].1) (m := fs[j].2) (List.getElem?_eq_getElem hjl)
  rw [List.getElem?_eq_getElem (by rw [numsOf_length]; exact hjl)] at hj2
  injection hj2 with hj2
  have := h.apart hi (List.getElem?_eq_getElem hjl) (by show m.x.no = fs[j].2.x.no; omega)
  omega
theorem RoundIn.own {A : Option Addr} {n c : Nat} {zs : List Int} (ho : w.ownsRow 0 3 1 (.slice A n c) n (zs.map fun z => .int .i64 z)) : RoundIn w A zs := by
  intro h0
  have hl := ho.1
  rw [List.length_map] at hl
  rcases ho.2 with ⟨e, e2⟩ | ⟨g, cap, cur, e, _, hb, h1, h2, h3, h4⟩
  · omega
  · injection e with e1 e2 e3
    subst e1
    refine ⟨g, 0, rfl, fun j x hx => ?_⟩
    have hj := (List.getElem?_eq_some_iff.1 hx).1
    have hb : Blk w g 3 cur := hb
    rw [Nat.zero_add, hb.cell]
    have := congrArg (fun l => l[j]?) h4
    simp only [List.getElem?_take, Nat.mul_one, Array.getElem?_toList, List.getElem?_map, hx, Option.map_some] at this
    rwa [if_pos (by omega)] at this
/-- What drop leaves. -/
theorem PoolAt.dropped (h : PoolAt RP RQ w p f l frames hand B rv fs) {i b : Nat} {m : Frm} (hi : fs[i]? = some (b, m))
    (h9 : Fr (fun b => b = p ∨ b = B ∨ some b = rv.ownBlock) w w9)
    (hb : Blk w9 p 69 #[.pointer (some ⟨f, 0, none⟩), .pointer (some ⟨l, 0, none⟩), .int .i64 frames, .map (some B), rv', .int .i64 hand])
    (hm : FrMap w9 Tryz.prog 3 B (fs.length - 1) (upd (heldAt (ksOf fs)) m.x.no none))
    (ho : w9.ownsRow 0 3 1 rv' (fs.length - 1) (((numsOf fs).eraseIdx i).map fun z => .int .i64 z))
    (ha : rv.ownBlock = rv'.ownBlock) :
    PoolAt RP RQ w9 p f l frames hand B rv' (fs.eraseIdx i) := by
  have hil := (List.getElem?_eq_some_iff.1 hi).1
  have hlen : (fs.eraseIdx i).length = fs.length - 1 := by rw [List.length_eraseIdx, if_pos hil]
  have hcl : ∀ b, (b = p ∨ b = B ∨ some b = rv.ownBlock) → RP b := fun b hb => by
    rcases hb with rfl | rfl | hb
    · exact h.rp
    · exact h.rB
    · exact h.rA b hb.symm
  exact { h with
    blk := hb
    map := by rw [hlen, ksOf_erase, heldAt_erase h.dis (ksOf_of hi)]; exact hm
    rnd := by rw [hlen, nosOf_nums, numsOf_erase]; exact ho
    frm := fun y hy => by
      have hy := List.mem_of_mem_eraseIdx hy
      refine (h.frm y hy).fr h9 (fun e => ?_) (fun k hk e => h.ap k (hcl k e) hk)
      obtain ⟨cs, hcs⟩ := (h.frm y hy).blk
      rcases e with e | e | e
      · exact Blk.ne_ h.blk hcs (by decide) e.symm
      · exact h.map.blk_ne hcs e
      · exact own_ne_of h.rnd e.symm hcs (by decide) rfl
    dis := by rw [ksOf_erase, map_eraseIdx']; exact (List.eraseIdx_sublist ..).nodup h.dis
    rA := fun g hg => h.rA g (ha.trans hg)
    lt := fun b hb => Nat.lt_of_lt_of_le (h.lt b hb) h9.size
    ltq := fun b hb => Nat.lt_of_lt_of_le (h.ltq b hb) h9.size
    len := by have := h.len; rw [hlen]; omega }

set_option maxHeartbeats 1600000 in
set_option maxRecDepth 100000 in
theorem drop_any (h : PoolAt RP RQ w p f l frames hand B rv fs) {i b : Nat} {m : Frm} (hi : fs[i]? = some (b, m)) (hno : m.x.no < 100000) :
    Calls Tryz.prog 28 #[.pointer (some ⟨p, 0, none⟩), .int .i64 m.x.no] w fun e w' => e = .returned (.tuple #[]) ∧ ∃ rv', PoolAt RP RQ w' p f l frames hand B rv' (fs.eraseIdx i) ∧ Fr (fun b => b = p ∨ b = B ∨ some b = rv.ownBlock) w w' := by
  have H := Lib.hid h
  have HI := Lib.hid hi
  have hil := (List.getElem?_eq_some_iff.1 hi).1
  have hf64 := h.f1
  have hfl := h.len
  have HIx := Lib.hid (h.idx hi)
  have HMap := Lib.hid h.map
  have HHeld : Hid (heldAt (ksOf fs) (m.x.no : Int) = some b) := heldAt_at h.dis (ksOf_of hi)
  obtain ⟨n, hn⟩ : ∃ n, fs.length = n := ⟨_, rfl⟩
  have HNl := Lib.hid hn
  rw [hn] at hil hfl
  have hro := h.rnd
  rw [hn] at hro
  obtain ⟨g, cap, erv, _⟩ := hro.form (by omega)
  have HErv := Lib.hid erv
  have HNp : Hid (¬ some p = rv.ownBlock) := fun e => own_ne_of h.rnd e.symm h.blk (by decide) rfl
  have c3 := h.blk.cell 3
  have z0 := h.blk.lt
  simp only [List.getElem?_toArray, List.getElem?_cons_zero, List.getElem?_cons_succ] at c3
  have HStep : Hid (∀ w1, w.mapTurned w1 B → Hid (Fr (fun k => k = B) w w1) ∧ Hid (Blk w1 p 69 #[.pointer (some ⟨f, 0, none⟩), .pointer (some ⟨l, 0, none⟩), .int .i64 frames, .map (some B), rv, .int .i64 hand]) ∧ p < w1.heap.size ∧ w1.cell? ⟨p, 4, none⟩ = some (.slice (some ⟨g, 0, none⟩) n cap)) := by
    intro w1 ht
    have hf : Fr (fun k => k = B) w w1 := fr_of_grown ht.grown
    have hb := h.blk.fr hf (fun e => h.map.blk_ne h.blk e)
    refine ⟨hf, hb, hb.lt, ?_⟩
    rw [← erv]
    exact hb.cell 4
  clear h hi hn hro erv
  go_enter Tryz.func28, Tryz.ntmps28
  go_wp2_with (with_reducible refine wpList_fr_del _ rfl _ _ _ _ rfl _ key_law Tryz.underlying67 B _ _ rfl HMap.out (m.x.no : Int) rfl (key_of _ (by omega) (by omega)) HHeld.out ?_; intro w1 hm1 ht1; have HM1 := Lib.hid hm1; obtain ⟨HF1, HB1, z1, c4⟩ := HStep.out w1 ht1; clear hm1 ht1)
  have HO1 : Hid (w1.ownsRow 0 3 1 rv fs.length ((numsOf fs).map fun z => .int .i64 z)) := by
    rw [← nosOf_nums]
    exact own_fr H.out.rnd HF1.out (fun g hg e => own_ne_map H.out.rnd hg H.out.map e)
  have HRi : Hid (RoundIn w1 (some ⟨g, 0, none⟩) (numsOf fs)) := RoundIn.own (c := cap) (n := n) (by have := HO1.out; rw [HErv.out, HNl.out] at this; exact this)
  have HIxC := Lib.hid (Index_any (some ⟨g, 0, none⟩) cap n (numsOf fs) (m.x.no : Int) w1 HRi.out (by rw [numsOf_length, HNl.out]) (by rw [numsOf_length, HNl.out]; omega))
  rw [HIx.out] at HIxC
  refine HIxC.out.mono ?_
  rintro e w2 ⟨rfl, rfl⟩
  clear HIxC HRi
  have t1 : ¬ (i : Int) < 0 := by omega
  have t2 : (0 : Int) ≤ (i : Int) := by omega
  have u1 : IntKind.i64.wrap ((i : Int) + 1) = (i : Int) + 1 := by rw [IntKind.wrap_i64]; omega
  go_wp2_with fail
  obtain ⟨A, c, e1, hdel⟩ := Delete_own (w := w1) (rv := rv) (numsOf fs) i (by have := HO1.out; rw [numsOf_length]; exact this) (by rw [numsOf_length, HNl.out]; exact hil)
  rw [numsOf_length, HNl.out] at e1 hdel
  rw [HErv.out] at e1
  injection e1 with e1 e2 e3
  subst e1 e3
  rw [show ((i + 1 : Nat) : Int) = (i : Int) + 1 from by omega] at hdel
  refine hdel.mono ?_
  rintro e w2 ⟨g2, cp2, rfl, e4, ho2, hf2⟩
  have hb2 := HB1.out.fr hf2 HNp.out
  have HB2 := Lib.hid hb2
  have HO2 := Lib.hid ho2
  have HF2 := Lib.hid hf2
  have HE4 := Lib.hid e4
  have k4 := hb2.cell 4
  have q4 := hb2.frozen 4
  have z2 := hb2.lt
  simp only [List.getElem?_toArray, List.getElem?_cons_zero, List.getElem?_cons_succ] at k4
  clear hdel e2 e4 ho2 hf2 hb2 c4
  go_wp2
  go_end0
  have hF9 : Fr (fun k => k = p) w2 (w2.setCell ⟨p, 4, none⟩ (.slice (some ⟨g2, 0, none⟩) (n - 1) cp2)) := (Fr.refl (fun k => k = p) w2).setCell (p := ⟨p, 4, none⟩) (.inr rfl) _
  have hF : Fr (fun b => b = p ∨ b = B ∨ some b = rv.ownBlock) w (w2.setCell ⟨p, 4, none⟩ (.slice (some ⟨g2, 0, none⟩) (n - 1) cp2)) :=
    ((HF1.out.mono (fun _ _ e => .inr (.inl e)) : Fr (fun b => b = p ∨ b = B ∨ some b = rv.ownBlock) w w1).step HF2.out (fun _ _ e => .inr (.inr e))).step hF9 (fun _ _ e => .inl e)
  have hpB : p ≠ B := H.out.map.blk_ne H.out.blk
  have hBo : ¬ some B = rv.ownBlock := fun e => own_ne_map H.out.rnd e.symm H.out.map rfl
  refine ⟨rfl, .slice (some ⟨g2, 0, none⟩) (n - 1) cp2, H.out.dropped HI.out hF (HB2.out.set_ 4 _) ((HM1.out.fr HF2.out hBo).fr hF9 (fun e => hpB e.symm)) ?_ HE4.out, hF⟩
  rw [HNl.out]
  exact own_fr HO2.out hF9 (fun g' hg' e => by
    have hg' : g2 = g' := by simpa [Value.ownBlock] using hg'
    exact HNp.out (by rw [HE4.out, hg', e]))
end
end Go.Proofs.YtccmmnacejdeoaaGreatDoor
