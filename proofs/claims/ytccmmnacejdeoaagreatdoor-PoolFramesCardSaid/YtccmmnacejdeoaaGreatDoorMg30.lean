/-
  Pool13, Pool14, in one text.
-/
import Derived.Test.YtccmmnacejdeoaaGreatDoorMg29
/-
  Get of a page that is not held: read, held, copied.
-/
namespace Go.Proofs.YtccmmnacejdeoaaGreatDoor
set_option linter.unusedSimpArgs false
set_option linter.unusedVariables false
open Go.RowKit Go.Maps

section
variable {w w' : World} {p f l d pages : Nat} {frames : Int} {V : Nat → PgV} {L : LS} {M N : Nat} {RP RQ RL RD F : Nat → Prop} {hand : Int} {B : Nat} {rv : Value} {fs : List (Nat × Frm)} {cur : Nat → Option PgV} {S : DS} {T : Nat} {lot : List PgV}
/-- What hold leaves of all. -/
theorem PIn.hold (h : PIn w p f l d pages frames V L M N RP RQ RL RD hand B rv fs cur S T lot) {x : PgV} {dirty : Bool} {gb g0 : Nat} {rv' : Value} {V' : Nat → PgV} (hv : Views (fs ++ [(gb, ⟨x, dirty, true⟩)]) cur pages V') (hvo : ∀ no, no < pages → (V' no).Ok ∧ (V' no).no = no)
    (hp : PoolAt (fun b => RP b ∨ (w.heap.size ≤ b ∧ b < w'.heap.size)) (fun b => RQ b ∨ b = g0) w' p f l frames hand B rv' (fs ++ [(gb, ⟨x, dirty, true⟩)])) (hf : Fr (fun b => b = p ∨ b = B ∨ some b = rv.ownBlock) w w') (hg : ¬ RL g0 ∧ ¬ RD g0 ∧ g0 ≠ f) :
    PIn w' p f l d pages frames V' L M N (fun b => RP b ∨ (w.heap.size ≤ b ∧ b < w'.heap.size)) (fun b => RQ b ∨ b = g0) RL RD hand B rv' (fs ++ [(gb, ⟨x, dirty, true⟩)]) cur S T lot ∧ Fr RP w w' := by
  have hf' : Fr RP w w' := hf.mono (fun b _ e => by
    rcases e with rfl | rfl | e
    · exact h.pool.rp
    · exact h.pool.rB
    · exact h.pool.rA b e.symm)
  refine ⟨?_, hf'⟩
  exact {
    pool := hp
    und := h.und.fr hf' (fun b hb e => (h.ap b (.inl e)).1 hb) (fun b hb e => (h.ap b (.inl e)).2.1 hb) (fun e => (h.ap f (.inl e)).2.2 rfl)
    ap := fun b hb => by
      rcases hb with (hb | hb) | (hb | hb)
      · exact h.ap b (.inl hb)
      · refine ⟨fun e => ?_, fun e => ?_, fun e => ?_⟩
        · have := h.und.log.lt e; omega
        · have := h.und.disk.lt e; omega
        · have := h.und.flt; omega
      · exact h.ap b (.inr hb)
      · rw [hb]; exact hg
    views := hv
    tm := h.tm
    M1 := h.M1
    vok := hvo }
set_option maxHeartbeats 3200000 in
set_option maxRecDepth 100000 in
theorem Get_new (h : PIn w p f l d pages frames V L M N RP RQ RL RD hand B rv fs cur S T lot) (x : PgV) (hno : x.no < pages) (hn : ∀ y ∈ fs, y.2.x.no ≠ x.no) (hx : V x.no = x) (hM : M + 1 ≤ 1000000000000000000) :
    Calls Tryz.prog 9 #[.pointer (some ⟨p, 0, none⟩), .int .i64 x.no] w fun e w' => ∃ g, e = .returned (.tuple #[.agg #[.int .i64 x.no, .int .u64 x.lsn, .slice (some ⟨g, 0, none⟩) 480 480], .int .i64 0]) ∧ CopyIn w' g x.d ∧ w.heap.size ≤ g ∧ ∃ L' S' T' lot' RP' RQ' RD' hand' rv' fs' cur', PIn w' p f l d pages frames V L' (M + 1) N RP' RQ' RL RD' hand' B rv' fs' cur' S' T' lot' ∧ LSame L L' ∧ (∀ y ∈ fs', y.2.dirty = true → ∃ z ∈ fs, z.2.x.no = y.2.x.no ∧ z.2.dirty = true) ∧ ¬ Uni RP' RQ' RL RD' f g ∧ (∀ b, Uni RP' RQ' RL RD' f b → Uni RP RQ RL RD f b ∨ w.heap.size ≤ b) ∧ Fr (Uni RP RQ RL RD f) w w' := by
  obtain ⟨gr, hgr⟩ : ∃ g, w.heap.size = g := ⟨_, rfl⟩
  have HGr := Lib.hid hgr
  have hfa : Fr Nob w (w.alloc (.cells #[.int .i64 0, .int .u64 0, .slice none 0 0] 40)) := (Fr.refl _ w).alloc _
  have hba : Blk (w.alloc (.cells #[.int .i64 0, .int .u64 0, .slice none 0 0] 40)) gr 40 #[.int .i64 0, .int .u64 0, .slice none 0 0] := by rw [← hgr]; exact Blk.new _ _ _
  have hin := h.new hfa
  obtain ⟨wa, hwa⟩ : ∃ W, w.alloc (.cells #[.int .i64 0, .int .u64 0, .slice none 0 0] 40) = W := ⟨_, rfl⟩
  rw [hwa] at hfa hba hin
  have HIn := Lib.hid hin
  have HFa := Lib.hid hfa
  have HBa := Lib.hid hba
  have HN := Lib.hid hn
  have HUlt : Hid (∀ b, Uni RP RQ RL RD f b → b < w.heap.size) := fun b hb => h.lt hb
  have HMap := Lib.hid hin.pool.map
  have HHeld : Hid (heldAt (ksOf fs) (x.no : Int) = none) := heldAt_none (fun k hk e => by
    unfold ksOf at hk
    obtain ⟨y, hy, rfl⟩ := List.mem_map.1 hk
    exact hn y hy (by have e : (y.2.x.no : Int) = x.no := e; omega))
  have hfile : pgOf (cur x.no) x.no = x := by
    rw [h.views.file x.no hno (fun y hy e => absurd e (hn y hy)), hx]
  have HX := Lib.hid hx
  obtain ⟨hxok, _⟩ := h.vok x.no hno
  rw [hx] at hxok
  have HOk := Lib.hid hxok
  have hrd := hin.und.read x.no hno
  rw [hfile] at hrd
  have HRd := Lib.hid hrd
  have hpg := h.und.pg2
  have p3 := hin.pool.blk.cell 3
  have p0 := hin.pool.blk.cell 0
  have zp := hin.pool.blk.lt
  simp only [List.getElem?_toArray, List.getElem?_cons_zero, List.getElem?_cons_succ] at p3 p0
  clear h hin hfa hba hn hx hxok hfile hrd
  go_enter Tryz.func9, Tryz.ntmps9
  go_wp2_with (with_reducible refine wpList_fr_look _ rfl _ _ _ rfl _ _ key_law Tryz.underlying67 (mapif_zero _) B _ _ rfl HMap.out (x.no : Int) rfl (key_of _ (by omega) (by omega)) ?_; rw [HHeld.out]; dsimp only [ptrOf, Option.isSome])
  refine HRd.out.mono ?_
  rintro e w2 ⟨g0, o0, rfl, hb2, _, _, hg2, hf2⟩
  have HB2 := Lib.hid hb2
  have HIn2 := Lib.hid (HIn.out.new hf2)
  have HF2 := Lib.hid (HFa.out.trans hf2)
  have HBa2 := Lib.hid (HBa.out.fr hf2 (fun h => h))
  have hg0l := hb2.lt _ rfl
  have hg0l : g0 < w2.heap.size := hg0l
  clear hb2 hf2 HRd hwa hgr p0 p3 zp
  go_wp2_with fail
  have hf3 : Fr Nob w2 (w2.alloc (.cells #[.int .i64 x.no, .int .u64 x.lsn, .slice (some ⟨g0, o0, none⟩) 480 480] 40)) := (Fr.refl _ w2).alloc _
  have hb3 : Blk (w2.alloc (.cells #[.int .i64 x.no, .int .u64 x.lsn, .slice (some ⟨g0, o0, none⟩) 480 480] 40)) w2.heap.size 40 #[.int .i64 x.no, .int .u64 x.lsn, .slice (some ⟨g0, o0, none⟩) 480 480] := Blk.new _ _ _
  have hz3 : (w2.alloc (.cells #[.int .i64 x.no, .int .u64 x.lsn, .slice (some ⟨g0, o0, none⟩) 480 480] 40)).heap.size = w2.heap.size + 1 := by simp
  have HRoom := Lib.hid (room_any (HIn2.out.new hf3) hM)
  have HF3 := Lib.hid hf3
  have HB3 := Lib.hid hb3
  have HZ3 := Lib.hid hz3
  obtain ⟨gx, hgx⟩ : ∃ g, w2.heap.size = g := ⟨_, rfl⟩
  have HGx := Lib.hid hgx
  obtain ⟨w3, hw3⟩ : ∃ W, w2.alloc (.cells #[.int .i64 x.no, .int .u64 x.lsn, .slice (some ⟨g0, o0, none⟩) 480 480] 40) = W := ⟨_, rfl⟩
  rw [hw3] at HF3 HB3 HZ3 HRoom
  rw [hgx] at HB3
  rw [hw3]
  clear hf3 hb3 hz3 hw3
  refine HRoom.out.mono ?_
  rintro e w4 ⟨rfl, L', S', T', lot', RD', hand', rv', fs', cur', hin4, hs4, hl4, hno4, hsub4, hf4⟩
  have hzz := HFa.out.size
  have hz2 := HF2.out.size
  have hz23 := HF3.out.size
  have hwg := HGr.out
  have hgxz := HGx.out
  have hzeq := HZ3.out
  have hU : ∀ b, w.heap.size ≤ b → ¬ Uni RP RQ RL RD f b := fun b hb e => by have := HUlt.out b e; omega
  have hawlt : w.heap.size ≤ g0 := by omega
  have HIn4 := Lib.hid hin4
  have HS4 := Lib.hid hs4
  have HSub4 := Lib.hid hsub4
  have HF4 := Lib.hid hf4
  have hbx4 := HB3.out.fr hf4 (hU gx (by omega))
  have HBx4 := Lib.hid hbx4
  have HBa4 := Lib.hid ((HBa2.out.fr HF3.out (fun h => h)).fr hf4 (hU gr (by omega)))
  have hbs4 : Bsl w4 (some ⟨g0, o0, none⟩) 480 x.d := (HB2.out.new HF3.out).fr hf4 (fun a ha e => by injection ha with ha; subst ha; exact hU g0 hawlt e)
  have HBs4 := Lib.hid hbs4
  have hn4 : ∀ y ∈ fs', y.2.x.no ≠ x.no := fun y hy e => by
    obtain ⟨z, hz, e2, _⟩ := hno4 y hy
    exact HN.out z hz (e2.trans e)
  have HNo4 := Lib.hid hno4
  have HN4 := Lib.hid hn4
  have hRPg : ¬ RP g0 := fun e => hU g0 hawlt (.inl e)
  have HHold := Lib.hid (hold_any hin4.pool x false g0 o0 480 hbs4 hRPg hl4 hn4 HOk.out.no)
  have k0 := hbx4.cell 0
  have k1 := hbx4.cell 1
  have k2 := hbx4.cell 2
  have kz := hbx4.lt
  simp only [List.getElem?_toArray, List.getElem?_cons_zero, List.getElem?_cons_succ] at k0 k1 k2
  clear hin4 hs4 hsub4 hf4 hbx4 hbs4 hn4 hno4 HRoom hgx
  go_wp2_with fail
  refine HHold.out.mono ?_
  rintro e w5 ⟨rfl, rv5, gb, hp5, hf5⟩
  have hz34 : w3.heap.size ≤ w4.heap.size := HF4.out.size
  have hg0o : ¬ RL g0 ∧ ¬ RD' g0 ∧ g0 ≠ f := ⟨fun e => hU g0 hawlt (.inr (.inr (.inl e))), fun e => by
    rcases HSub4.out g0 e with e | e
    · exact hU g0 hawlt (.inr (.inr (.inr (.inl e))))
    · omega, fun e => hU g0 hawlt (.inr (.inr (.inr (.inr e))))⟩
  obtain ⟨hin5, hf5'⟩ := HIn4.out.hold (HIn4.out.views.hold hno HN4.out gb x HX.out.symm rfl HOk.out) HIn4.out.vok hp5 hf5 hg0o
  have hRP : ∀ b, w.heap.size ≤ b → ¬ RP b := fun b hb e => hU b hb (.inl e)
  have hbx5 := HBx4.out.fr hf5' (hRP gx (by omega))
  have hba5 := HBa4.out.fr hf5' (hRP gr (by omega))
  have hbs5 : Bsl w5 (some ⟨g0, o0, none⟩) 480 x.d := HBs4.out.fr hf5' (fun a ha e => by injection ha with ha; subst ha; exact hRPg e)
  have HIn5 := Lib.hid hin5
  have HF5 := Lib.hid hf5'
  have HBa5 := Lib.hid hba5
  have HCp := Lib.hid (copied_any (x.no : Int) (x.lsn : Int) g0 o0 480 x.d hbs5 HOk.out.d)
  have k0 := hbx5.cell 0
  have k1 := hbx5.cell 1
  have k2 := hbx5.cell 2
  have kz := hbx5.lt
  simp only [List.getElem?_toArray, List.getElem?_cons_zero, List.getElem?_cons_succ] at k0 k1 k2
  clear hp5 hf5 hin5 hf5' hbx5 hba5 hbs5 HHold
  go_wp2_with fail
  refine HCp.out.mono ?_
  rintro e w6 ⟨g, rfl, hc6, hg6, hf6⟩
  have hb6 := HBa5.out.fr hf6 (fun h => h)
  have HB6 := Lib.hid hb6
  have HC6 := Lib.hid hc6
  have HF6 := Lib.hid hf6
  have s0 := hb6.cell 0
  have s1 := hb6.cell 1
  have s2 := hb6.cell 2
  have t0 := hb6.frozen 0
  have t1 := hb6.frozen 1
  have t2 := hb6.frozen 2
  have sz := hb6.lt
  have hgl := hc6.lt
  simp only [List.getElem?_toArray, List.getElem?_cons_zero, List.getElem?_cons_succ] at s0 s1 s2
  clear hb6 hc6 hf6 HCp
  go_wp2
  have hfE : Fr (fun x => x = gr) w6 (((w6.setCell ⟨gr, 0, none⟩ (.int .i64 x.no)).setCell ⟨gr, 1, none⟩ (.int .u64 x.lsn)).setCell ⟨gr, 2, none⟩ (.slice (some ⟨g, 0, none⟩) 480 480)) :=
    (((Fr.refl (fun x => x = gr) w6).setCell (p := ⟨gr, 0, none⟩) (.inr rfl) _).setCell (p := ⟨gr, 1, none⟩) (.inr rfl) _).setCell (p := ⟨gr, 2, none⟩) (.inr rfl) _
  have hbE : Blk (((w6.setCell ⟨gr, 0, none⟩ (.int .i64 x.no)).setCell ⟨gr, 1, none⟩ (.int .u64 x.lsn)).setCell ⟨gr, 2, none⟩ (.slice (some ⟨g, 0, none⟩) 480 480)) gr 40 #[.int .i64 x.no, .int .u64 x.lsn, .slice (some ⟨g, 0, none⟩) 480 480] := ((HB6.out.set_ 0 _).set_ 1 _).set_ 2 _
  have hz45 := HF5.out.size
  have hga5 : gr < w5.heap.size := HBa5.out.lt
  have hUni5 : ∀ b, Uni (fun b => RP b ∨ (w4.heap.size ≤ b ∧ b < w5.heap.size)) (fun b => RQ b ∨ b = g0) RL RD' f b → (Uni RP RQ RL RD f b ∨ (w2.heap.size ≤ b ∧ b ≠ gr) ∨ b = g0) ∧ b < w5.heap.size := fun b hb => by
    refine ⟨?_, HIn5.out.lt hb⟩
    rcases hb with (hb | hb) | (hb | hb) | hb | hb | hb
    · exact .inl (.inl hb)
    · exact .inr (.inl ⟨by omega, by omega⟩)
    · exact .inl (.inr (.inl hb))
    · exact .inr (.inr hb)
    · exact .inl (.inr (.inr (.inl hb)))
    · rcases HSub4.out b hb with e | e
      · exact .inl (.inr (.inr (.inr (.inl e))))
      · exact .inr (.inl ⟨by omega, by omega⟩)
    · exact .inl (.inr (.inr (.inr (.inr hb))))
  refine bodyPost_ret (results_cell_rowP rfl _ _ _ _ _ _ rfl hbE Tryz.underlying40 rfl page_size) rfl ⟨g, rfl, HC6.out.fr hfE (fun e => by omega), by omega, L', S', T', lot', _, _, RD', hand', rv5, _, cur', (HIn5.out.new HF6.out).fr hfE (fun b hb e => ?_), HS4.out, fun y hy hd => ?_, fun e => ?_, fun b hb => ?_, ?_⟩
  · have e : b = gr := e
    subst e
    obtain ⟨h1 | h1 | h1, _⟩ := hUni5 _ hb
    · exact hU _ (by omega) h1
    · exact h1.2 rfl
    · have := HBa.out.lt; omega
  · rcases List.mem_append.1 hy with hy | hy
    · obtain ⟨z, hz, e1, e2⟩ := HNo4.out y hy
      exact ⟨z, hz, e1, e2 hd⟩
    · rw [List.mem_singleton] at hy
      rw [hy] at hd
      exact Bool.noConfusion hd
  · have := (hUni5 _ e).2; omega
  · obtain ⟨h1 | h1 | h1, _⟩ := hUni5 _ hb
    · exact .inl h1
    · exact .inr (by omega)
    · exact .inr (by omega)
  · exact ((((HF2.out.trans HF3.out).mono (fun _ _ h => h.elim) : Fr (Uni RP RQ RL RD f) w w3).trans HF4.out).trans ((HF5.out.mono (fun _ _ h => .inl h) : Fr (Uni RP RQ RL RD f) w4 w5).trans (HF6.out.mono (fun _ _ h => h.elim)))).step hfE (fun i hi e => by omega)
end
end Go.Proofs.YtccmmnacejdeoaaGreatDoor

/-
  Put: what is no page is refused.
-/
namespace Go.Proofs.YtccmmnacejdeoaaGreatDoor
set_option linter.unusedSimpArgs false
set_option linter.unusedVariables false
open Go.RowKit Go.Maps

section
variable {w w' : World} {p f l d pages : Nat} {frames : Int} {V : Nat → PgV} {L : LS} {M N : Nat} {RP RQ RL RD F : Nat → Prop} {hand : Int} {B : Nat} {rv : Value} {fs : List (Nat × Frm)} {cur : Nat → Option PgV} {S : DS} {T : Nat} {lot : List PgV}
set_option maxHeartbeats 3200000 in
set_option maxRecDepth 100000 in
theorem Put_bad0 (h : PIn w p f l d pages frames V L M N RP RQ RL RD hand B rv fs cur S T lot) (no lsn : Int) (A : Option Addr) (n c : Nat) (h1 : no < 0) :
    Calls Tryz.prog 8 #[.pointer (some ⟨p, 0, none⟩), .agg #[.int .i64 no, .int .u64 lsn, .slice A n c]] w fun e w' => e = .returned (.int .i64 1) ∧ Fr Nob w w' := by
  have qB := len_by
  obtain ⟨gx, hgx⟩ : ∃ g, w.heap.size = g := ⟨_, rfl⟩
  have HGx := Lib.hid hgx
  have hfa : Fr Nob w (w.alloc (.cells #[.int .i64 no, .int .u64 lsn, .slice A n c] 40)) := (Fr.refl _ w).alloc _
  have hbx : Blk (w.alloc (.cells #[.int .i64 no, .int .u64 lsn, .slice A n c] 40)) gx 40 #[.int .i64 no, .int .u64 lsn, .slice A n c] := by rw [← hgx]; exact Blk.new _ _ _
  have hin := h.new hfa
  obtain ⟨wa, hwa⟩ : ∃ W, w.alloc (.cells #[.int .i64 no, .int .u64 lsn, .slice A n c] 40) = W := ⟨_, rfl⟩
  rw [hwa] at hfa hbx hin
  have HIn := Lib.hid hin
  have HFa := Lib.hid hfa
  have HBx := Lib.hid hbx
  have x0 := hbx.cell 0
  have x1 := hbx.cell 1
  have x2 := hbx.cell 2
  have zx := hbx.lt
  have p0 := hin.pool.blk.cell 0
  have p1 := hin.pool.blk.cell 1
  have zp := hin.pool.blk.lt
  have hpg := h.und.pg2
  simp only [List.getElem?_toArray, List.getElem?_cons_zero, List.getElem?_cons_succ] at x0 x1 x2 p0 p1
  have t0 : no < 0 := h1
  clear h hin hfa hbx
  go_enter Tryz.func8, Tryz.ntmps8
  go_wp2
  have hS : Fr Nob wa wa.drew := (Fr.refl _ wa).drew
  refine Rg.begin (Fr Nob wa) [] (by kernel_rfl) ?_
  refine Rg.op 0 (some 8) hS (v := ?v0b0) (a' := ?a0b0) (hy := fun wz hwz => ?h0b0) (ha := ?b0b0) (h := ?_)
  case h0b0 => (go_simp; try with_reducible rfl)
  case b0b0 => (simp only [Act.put, List.setIfInBounds_toArray, List.set_cons_zero, List.set_cons_succ]; rfl)
  refine Rg.op 1 (some 9) hS (v := (.int .i64 no)) (a' := ?a1b0) (hy := fun wz hwz => ?h1b0) (ha := ?b1b0) (h := ?_)
  case h1b0 => (have cx := (hwz.cell (p := ⟨gx, 0, none⟩) zx (fun h => h)).trans x0; have hpp := Nat.lt_of_lt_of_le zx hwz.size; go_simp; try with_reducible rfl)
  case b1b0 => (simp only [Act.put, List.setIfInBounds_toArray, List.set_cons_zero, List.set_cons_succ]; rfl)
  refine Rg.op 2 (some 10) hS (v := (.bool true)) (a' := ?a2b0) (hy := fun wz hwz => ?h2b0) (ha := ?b2b0) (h := ?_)
  case h2b0 => (have hq := t0; go_simp; try with_reducible rfl)
  case b2b0 => (simp only [Act.put, List.setIfInBounds_toArray, List.set_cons_zero, List.set_cons_succ]; rfl)
  refine Rg.op 3 (some 11) hS (v := ?v3b0) (a' := ?a3b0) (hy := fun wz hwz => ?h3b0) (ha := ?b3b0) (h := ?_)
  case h3b0 => (go_simp; try with_reducible rfl)
  case b3b0 => (simp only [Act.put, List.setIfInBounds_toArray, List.set_cons_zero, List.set_cons_succ]; rfl)
  refine Rg.pass 4 (some 12) hS (a' := ?a4b0) (ha := ?b4b0) (h := ?_)
  case b4b0 => (simp only [Act.put, List.setIfInBounds_toArray, List.set_cons_zero, List.set_cons_succ]; rfl)
  refine Rg.pass 5 (some 13) hS (a' := ?a5b0) (ha := ?b5b0) (h := ?_)
  case b5b0 => (simp only [Act.put, List.setIfInBounds_toArray, List.set_cons_zero, List.set_cons_succ]; rfl)
  refine Rg.pass 6 (some 14) hS (a' := ?a6b0) (ha := ?b6b0) (h := ?_)
  case b6b0 => (simp only [Act.put, List.setIfInBounds_toArray, List.set_cons_zero, List.set_cons_succ]; rfl)
  refine Rg.pass 7 (some 15) hS (a' := ?a7b0) (ha := ?b7b0) (h := ?_)
  case b7b0 => (simp only [Act.put, List.setIfInBounds_toArray, List.set_cons_zero, List.set_cons_succ]; rfl)
  refine Rg.pass 8 (some 16) hS (a' := ?a8b0) (ha := ?b8b0) (h := ?_)
  case b8b0 => (simp only [Act.put, List.setIfInBounds_toArray, List.set_cons_zero, List.set_cons_succ]; rfl)
  refine Rg.pass 9 (some 17) hS (a' := ?a9b0) (ha := ?b9b0) (h := ?_)
  case b9b0 => (simp only [Act.put, List.setIfInBounds_toArray, List.set_cons_zero, List.set_cons_succ]; rfl)
  refine Rg.pass 10 (some 18) hS (a' := ?a10b0) (ha := ?b10b0) (h := ?_)
  case b10b0 => (simp only [Act.put, List.setIfInBounds_toArray, List.set_cons_zero, List.set_cons_succ]; rfl)
  refine Rg.pass 11 (some 19) hS (a' := ?a11b0) (ha := ?b11b0) (h := ?_)
  case b11b0 => (simp only [Act.put, List.setIfInBounds_toArray, List.set_cons_zero, List.set_cons_succ]; rfl)
  refine Rg.op 12 (some 20) hS (v := (.bool true)) (a' := ?a12b0) (hy := fun wz hwz => ?h12b0) (ha := ?b12b0) (h := ?_)
  case h12b0 => (go_simp; try with_reducible rfl)
  case b12b0 => (simp only [Act.put, List.setIfInBounds_toArray, List.set_cons_zero, List.set_cons_succ]; rfl)
  refine Rg.op 13 (some 21) hS (v := ?v13b0) (a' := ?a13b0) (hy := fun wz hwz => ?h13b0) (ha := ?b13b0) (h := ?_)
  case h13b0 => (go_simp; try with_reducible rfl)
  case b13b0 => (simp only [Act.put, List.setIfInBounds_toArray, List.set_cons_zero, List.set_cons_succ]; rfl)
  refine Rg.pass 14 (some 22) hS (a' := ?a14b0) (ha := ?b14b0) (h := ?_)
  case b14b0 => (simp only [Act.put, List.setIfInBounds_toArray, List.set_cons_zero, List.set_cons_succ]; rfl)
  refine Rg.pass 15 (some 23) hS (a' := ?a15b0) (ha := ?b15b0) (h := ?_)
  case b15b0 => (simp only [Act.put, List.setIfInBounds_toArray, List.set_cons_zero, List.set_cons_succ]; rfl)
  refine Rg.pass 16 (some 24) hS (a' := ?a16b0) (ha := ?b16b0) (h := ?_)
  case b16b0 => (simp only [Act.put, List.setIfInBounds_toArray, List.set_cons_zero, List.set_cons_succ]; rfl)
  refine Rg.pass 17 (some 25) hS (a' := ?a17b0) (ha := ?b17b0) (h := ?_)
  case b17b0 => (simp only [Act.put, List.setIfInBounds_toArray, List.set_cons_zero, List.set_cons_succ]; rfl)
  refine Rg.op 18 (some 26) hS (v := (.bool true)) (a' := ?a18b0) (hy := fun wz hwz => ?h18b0) (ha := ?b18b0) (h := ?_)
  case h18b0 => (go_simp; try with_reducible rfl)
  case b18b0 => (simp only [Act.put, List.setIfInBounds_toArray, List.set_cons_zero, List.set_cons_succ]; rfl)
  refine Rg.op 19 (some 27) hS (v := ?v19b0) (a' := ?a19b0) (hy := fun wz hwz => ?h19b0) (ha := ?b19b0) (h := ?_)
  case h19b0 => (go_simp; try with_reducible rfl)
  case b19b0 => (simp only [Act.put, List.setIfInBounds_toArray, List.set_cons_zero, List.set_cons_succ]; rfl)
  refine Rg.pass 20 (some 28) hS (a' := ?a20b0) (ha := ?b20b0) (h := ?_)
  case b20b0 => (simp only [Act.put, List.setIfInBounds_toArray, List.set_cons_zero, List.set_cons_succ]; rfl)
  refine Rg.pass 21 (some 29) hS (a' := ?a21b0) (ha := ?b21b0) (h := ?_)
  case b21b0 => (simp only [Act.put, List.setIfInBounds_toArray, List.set_cons_zero, List.set_cons_succ]; rfl)
  refine Rg.pass 22 (some 30) hS (a' := ?a22b0) (ha := ?b22b0) (h := ?_)
  case b22b0 => (simp only [Act.put, List.setIfInBounds_toArray, List.set_cons_zero, List.set_cons_succ]; rfl)
  refine Rg.pass 23 (some 31) hS (a' := ?a23b0) (ha := ?b23b0) (h := ?_)
  case b23b0 => (simp only [Act.put, List.setIfInBounds_toArray, List.set_cons_zero, List.set_cons_succ]; rfl)
  refine Rg.pass 24 (some 32) hS (a' := ?a24b0) (ha := ?b24b0) (h := ?_)
  case b24b0 => (simp only [Act.put, List.setIfInBounds_toArray, List.set_cons_zero, List.set_cons_succ]; rfl)
  refine Rg.pass 25 (some 33) hS (a' := ?a25b0) (ha := ?b25b0) (h := ?_)
  case b25b0 => (simp only [Act.put, List.setIfInBounds_toArray, List.set_cons_zero, List.set_cons_succ]; rfl)
  refine Rg.pass 26 (some 34) hS (a' := ?a26b0) (ha := ?b26b0) (h := ?_)
  case b26b0 => (simp only [Act.put, List.setIfInBounds_toArray, List.set_cons_zero, List.set_cons_succ]; rfl)
  refine Rg.pass 27 (some 35) hS (a' := ?a27b0) (ha := ?b27b0) (h := ?_)
  case b27b0 => (simp only [Act.put, List.setIfInBounds_toArray, List.set_cons_zero, List.set_cons_succ]; rfl)
  refine Rg.op 28 (some 36) hS (v := (.bool true)) (a' := ?a28b0) (hy := fun wz hwz => ?h28b0) (ha := ?b28b0) (h := ?_)
  case h28b0 => (go_simp; try with_reducible rfl)
  case b28b0 => (simp only [Act.put, List.setIfInBounds_toArray, List.set_cons_zero, List.set_cons_succ]; rfl)
  refine Rg.done _ (h := ?_)
  go_wp2
  go_ret
  exact ⟨rfl, HFa.out.drew⟩
set_option maxHeartbeats 3200000 in
set_option maxRecDepth 100000 in
theorem Put_bad1 (h : PIn w p f l d pages frames V L M N RP RQ RL RD hand B rv fs cur S T lot) (no lsn : Int) (A : Option Addr) (n c : Nat) (h1 : ¬ no < 0) (h2 : (pages : Int) ≤ no) :
    Calls Tryz.prog 8 #[.pointer (some ⟨p, 0, none⟩), .agg #[.int .i64 no, .int .u64 lsn, .slice A n c]] w fun e w' => e = .returned (.int .i64 1) ∧ Fr Nob w w' := by
  have qB := len_by
  obtain ⟨gx, hgx⟩ : ∃ g, w.heap.size = g := ⟨_, rfl⟩
  have HGx := Lib.hid hgx
  have hfa : Fr Nob w (w.alloc (.cells #[.int .i64 no, .int .u64 lsn, .slice A n c] 40)) := (Fr.refl _ w).alloc _
  have hbx : Blk (w.alloc (.cells #[.int .i64 no, .int .u64 lsn, .slice A n c] 40)) gx 40 #[.int .i64 no, .int .u64 lsn, .slice A n c] := by rw [← hgx]; exact Blk.new _ _ _
  have hin := h.new hfa
  obtain ⟨wa, hwa⟩ : ∃ W, w.alloc (.cells #[.int .i64 no, .int .u64 lsn, .slice A n c] 40) = W := ⟨_, rfl⟩
  rw [hwa] at hfa hbx hin
  have HIn := Lib.hid hin
  have HFa := Lib.hid hfa
  have HBx := Lib.hid hbx
  have x0 := hbx.cell 0
  have x1 := hbx.cell 1
  have x2 := hbx.cell 2
  have zx := hbx.lt
  have p0 := hin.pool.blk.cell 0
  have p1 := hin.pool.blk.cell 1
  have zp := hin.pool.blk.lt
  have hpg := h.und.pg2
  simp only [List.getElem?_toArray, List.getElem?_cons_zero, List.getElem?_cons_succ] at x0 x1 x2 p0 p1
  have t0 : ¬ no < 0 := h1
  have t1 : (pages : Int) ≤ no := h2
  clear h hin hfa hbx
  go_enter Tryz.func8, Tryz.ntmps8
  go_wp2
  have hS : Fr Nob wa wa.drew := (Fr.refl _ wa).drew
  refine Rg.begin (Fr Nob wa) [] (by kernel_rfl) ?_
  refine Rg.op 0 (some 8) hS (v := ?v0b1) (a' := ?a0b1) (hy := fun wz hwz => ?h0b1) (ha := ?b0b1) (h := ?_)
  case h0b1 => (go_simp; try with_reducible rfl)
  case b0b1 => (simp only [Act.put, List.setIfInBounds_toArray, List.set_cons_zero, List.set_cons_succ]; rfl)
  refine Rg.op 1 (some 9) hS (v := (.int .i64 no)) (a' := ?a1b1) (hy := fun wz hwz => ?h1b1) (ha := ?b1b1) (h := ?_)
  case h1b1 => (have cx := (hwz.cell (p := ⟨gx, 0, none⟩) zx (fun h => h)).trans x0; have hpp := Nat.lt_of_lt_of_le zx hwz.size; go_simp; try with_reducible rfl)
  case b1b1 => (simp only [Act.put, List.setIfInBounds_toArray, List.set_cons_zero, List.set_cons_succ]; rfl)
  refine Rg.op 2 (some 10) hS (v := (.bool false)) (a' := ?a2b1) (hy := fun wz hwz => ?h2b1) (ha := ?b2b1) (h := ?_)
  case h2b1 => (have hq := t0; go_simp; try with_reducible rfl)
  case b2b1 => (simp only [Act.put, List.setIfInBounds_toArray, List.set_cons_zero, List.set_cons_succ]; rfl)
  refine Rg.op 3 (some 11) hS (v := ?v3b1) (a' := ?a3b1) (hy := fun wz hwz => ?h3b1) (ha := ?b3b1) (h := ?_)
  case h3b1 => (go_simp; try with_reducible rfl)
  case b3b1 => (simp only [Act.put, List.setIfInBounds_toArray, List.set_cons_zero, List.set_cons_succ]; rfl)
  refine Rg.op 4 (some 12) hS (v := ?v4b1) (a' := ?a4b1) (hy := fun wz hwz => ?h4b1) (ha := ?b4b1) (h := ?_)
  case h4b1 => (go_simp; try with_reducible rfl)
  case b4b1 => (simp only [Act.put, List.setIfInBounds_toArray, List.set_cons_zero, List.set_cons_succ]; rfl)
  refine Rg.op 5 (some 13) hS (v := (.int .i64 no)) (a' := ?a5b1) (hy := fun wz hwz => ?h5b1) (ha := ?b5b1) (h := ?_)
  case h5b1 => (have cx := (hwz.cell (p := ⟨gx, 0, none⟩) zx (fun h => h)).trans x0; have hpp := Nat.lt_of_lt_of_le zx hwz.size; go_simp; try with_reducible rfl)
  case b5b1 => (simp only [Act.put, List.setIfInBounds_toArray, List.set_cons_zero, List.set_cons_succ]; rfl)
  refine Rg.op 6 (some 14) hS (v := ?v6b1) (a' := ?a6b1) (hy := fun wz hwz => ?h6b1) (ha := ?b6b1) (h := ?_)
  case h6b1 => (go_simp; try with_reducible rfl)
  case b6b1 => (simp only [Act.put, List.setIfInBounds_toArray, List.set_cons_zero, List.set_cons_succ]; rfl)
  refine Rg.op 7 (some 15) hS (v := ?v7b1) (a' := ?a7b1) (hy := fun wz hwz => ?h7b1) (ha := ?b7b1) (h := ?_)
  case h7b1 => (have hpp := Nat.lt_of_lt_of_le zp hwz.size; go_simp; try with_reducible rfl)
  case b7b1 => (simp only [Act.put, List.setIfInBounds_toArray, List.set_cons_zero, List.set_cons_succ]; rfl)
  refine Rg.op 8 (some 16) hS (v := ?v8b1) (a' := ?a8b1) (hy := fun wz hwz => ?h8b1) (ha := ?b8b1) (h := ?_)
  case h8b1 => (have hpp := Nat.lt_of_lt_of_le zp hwz.size; go_simp; try with_reducible rfl)
  case b8b1 => (simp only [Act.put, List.setIfInBounds_toArray, List.set_cons_zero, List.set_cons_succ]; rfl)
  refine Rg.op 9 (some 17) hS (v := (.pointer (some ⟨f, 0, none⟩))) (a' := ?a9b1) (hy := fun wz hwz => ?h9b1) (ha := ?b9b1) (h := ?_)
  case h9b1 => (have cx := (hwz.cell (p := ⟨p, 0, none⟩) zp (fun h => h)).trans p0; have hpp := Nat.lt_of_lt_of_le zp hwz.size; go_simp; try with_reducible rfl)
  case b9b1 => (simp only [Act.put, List.setIfInBounds_toArray, List.set_cons_zero, List.set_cons_succ]; rfl)
  refine Rg.call 10 (some 18) (hrun := ?h10b1) (hcall := Pages_any (HIn.out.und.file.fr hS (fun h => h))) (h := ?_)
  case h10b1 => (go_simp)
  rintro e w3b1 ⟨rfl, rfl⟩
  refine ⟨_, ?a10b1, rfl, ?b10b1, (fun _ => hS), ?_⟩
  case b10b1 => (simp only [Act.put, List.setIfInBounds_toArray, List.set_cons_zero, List.set_cons_succ]; rfl)
  refine Rg.op 11 (some 19) hS (v := (.bool true)) (a' := ?a11b1) (hy := fun wz hwz => ?h11b1) (ha := ?b11b1) (h := ?_)
  case h11b1 => (have hq := t1; go_simp; try with_reducible rfl)
  case b11b1 => (simp only [Act.put, List.setIfInBounds_toArray, List.set_cons_zero, List.set_cons_succ]; rfl)
  refine Rg.op 12 (some 20) hS (v := (.bool true)) (a' := ?a12b1) (hy := fun wz hwz => ?h12b1) (ha := ?b12b1) (h := ?_)
  case h12b1 => (go_simp; try with_reducible rfl)
  case b12b1 => (simp only [Act.put, List.setIfInBounds_toArray, List.set_cons_zero, List.set_cons_succ]; rfl)
  refine Rg.op 13 (some 21) hS (v := ?v13b1) (a' := ?a13b1) (hy := fun wz hwz => ?h13b1) (ha := ?b13b1) (h := ?_)
  case h13b1 => (go_simp; try with_reducible rfl)
  case b13b1 => (simp only [Act.put, List.setIfInBounds_toArray, List.set_cons_zero, List.set_cons_succ]; rfl)
  refine Rg.pass 14 (some 22) hS (a' := ?a14b1) (ha := ?b14b1) (h := ?_)
  case b14b1 => (simp only [Act.put, List.setIfInBounds_toArray, List.set_cons_zero, List.set_cons_succ]; rfl)
  refine Rg.pass 15 (some 23) hS (a' := ?a15b1) (ha := ?b15b1) (h := ?_)
  case b15b1 => (simp only [Act.put, List.setIfInBounds_toArray, List.set_cons_zero, List.set_cons_succ]; rfl)
  refine Rg.pass 16 (some 24) hS (a' := ?a16b1) (ha := ?b16b1) (h := ?_)
  case b16b1 => (simp only [Act.put, List.setIfInBounds_toArray, List.set_cons_zero, List.set_cons_succ]; rfl)
  refine Rg.pass 17 (some 25) hS (a' := ?a17b1) (ha := ?b17b1) (h := ?_)
  case b17b1 => (simp only [Act.put, List.setIfInBounds_toArray, List.set_cons_zero, List.set_cons_succ]; rfl)
  refine Rg.op 18 (some 26) hS (v := (.bool true)) (a' := ?a18b1) (hy := fun wz hwz => ?h18b1) (ha := ?b18b1) (h := ?_)
  case h18b1 => (go_simp; try with_reducible rfl)
  case b18b1 => (simp only [Act.put, List.setIfInBounds_toArray, List.set_cons_zero, List.set_cons_succ]; rfl)
  refine Rg.op 19 (some 27) hS (v := ?v19b1) (a' := ?a19b1) (hy := fun wz hwz => ?h19b1) (ha := ?b19b1) (h := ?_)
  case h19b1 => (go_simp; try with_reducible rfl)
  case b19b1 => (simp only [Act.put, List.setIfInBounds_toArray, List.set_cons_zero, List.set_cons_succ]; rfl)
  refine Rg.pass 20 (some 28) hS (a' := ?a20b1) (ha := ?b20b1) (h := ?_)
  case b20b1 => (simp only [Act.put, List.setIfInBounds_toArray, List.set_cons_zero, List.set_cons_succ]; rfl)
  refine Rg.pass 21 (some 29) hS (a' := ?a21b1) (ha := ?b21b1) (h := ?_)
  case b21b1 => (simp only [Act.put, List.setIfInBounds_toArray, List.set_cons_zero, List.set_cons_succ]; rfl)
  refine Rg.pass 22 (some 30) hS (a' := ?a22b1) (ha := ?b22b1) (h := ?_)
  case b22b1 => (simp only [Act.put, List.setIfInBounds_toArray, List.set_cons_zero, List.set_cons_succ]; rfl)
  refine Rg.pass 23 (some 31) hS (a' := ?a23b1) (ha := ?b23b1) (h := ?_)
  case b23b1 => (simp only [Act.put, List.setIfInBounds_toArray, List.set_cons_zero, List.set_cons_succ]; rfl)
  refine Rg.pass 24 (some 32) hS (a' := ?a24b1) (ha := ?b24b1) (h := ?_)
  case b24b1 => (simp only [Act.put, List.setIfInBounds_toArray, List.set_cons_zero, List.set_cons_succ]; rfl)
  refine Rg.pass 25 (some 33) hS (a' := ?a25b1) (ha := ?b25b1) (h := ?_)
  case b25b1 => (simp only [Act.put, List.setIfInBounds_toArray, List.set_cons_zero, List.set_cons_succ]; rfl)
  refine Rg.pass 26 (some 34) hS (a' := ?a26b1) (ha := ?b26b1) (h := ?_)
  case b26b1 => (simp only [Act.put, List.setIfInBounds_toArray, List.set_cons_zero, List.set_cons_succ]; rfl)
  refine Rg.pass 27 (some 35) hS (a' := ?a27b1) (ha := ?b27b1) (h := ?_)
  case b27b1 => (simp only [Act.put, List.setIfInBounds_toArray, List.set_cons_zero, List.set_cons_succ]; rfl)
  refine Rg.op 28 (some 36) hS (v := (.bool true)) (a' := ?a28b1) (hy := fun wz hwz => ?h28b1) (ha := ?b28b1) (h := ?_)
  case h28b1 => (go_simp; try with_reducible rfl)
  case b28b1 => (simp only [Act.put, List.setIfInBounds_toArray, List.set_cons_zero, List.set_cons_succ]; rfl)
  refine Rg.done _ (h := ?_)
  go_wp2
  go_ret
  exact ⟨rfl, HFa.out.drew⟩
set_option maxHeartbeats 3200000 in
set_option maxRecDepth 100000 in
theorem Put_bad2 (h : PIn w p f l d pages frames V L M N RP RQ RL RD hand B rv fs cur S T lot) (no lsn : Int) (A : Option Addr) (n c : Nat) (h1 : ¬ no < 0) (h2 : ¬ (pages : Int) ≤ no) (h3 : n ≠ 480) :
    Calls Tryz.prog 8 #[.pointer (some ⟨p, 0, none⟩), .agg #[.int .i64 no, .int .u64 lsn, .slice A n c]] w fun e w' => e = .returned (.int .i64 1) ∧ Fr Nob w w' := by
  have qB := len_by
  obtain ⟨gx, hgx⟩ : ∃ g, w.heap.size = g := ⟨_, rfl⟩
  have HGx := Lib.hid hgx
  have hfa : Fr Nob w (w.alloc (.cells #[.int .i64 no, .int .u64 lsn, .slice A n c] 40)) := (Fr.refl _ w).alloc _
  have hbx : Blk (w.alloc (.cells #[.int .i64 no, .int .u64 lsn, .slice A n c] 40)) gx 40 #[.int .i64 no, .int .u64 lsn, .slice A n c] := by rw [← hgx]; exact Blk.new _ _ _
  have hin := h.new hfa
  obtain ⟨wa, hwa⟩ : ∃ W, w.alloc (.cells #[.int .i64 no, .int .u64 lsn, .slice A n c] 40) = W := ⟨_, rfl⟩
  rw [hwa] at hfa hbx hin
  have HIn := Lib.hid hin
  have HFa := Lib.hid hfa
  have HBx := Lib.hid hbx
  have x0 := hbx.cell 0
  have x1 := hbx.cell 1
  have x2 := hbx.cell 2
  have zx := hbx.lt
  have p0 := hin.pool.blk.cell 0
  have p1 := hin.pool.blk.cell 1
  have zp := hin.pool.blk.lt
  have hpg := h.und.pg2
  simp only [List.getElem?_toArray, List.getElem?_cons_zero, List.getElem?_cons_succ] at x0 x1 x2 p0 p1
  have t0 : ¬ no < 0 := h1
  have t1 : ¬ (pages : Int) ≤ no := h2
  have t2 : ¬ (n : Int) = 480 := by omega
  clear h hin hfa hbx
  go_enter Tryz.func8, Tryz.ntmps8
  go_wp2
  have hS : Fr Nob wa wa.drew := (Fr.refl _ wa).drew
  refine Rg.begin (Fr Nob wa) [] (by kernel_rfl) ?_
  refine Rg.op 0 (some 8) hS (v := ?v0b2) (a' := ?a0b2) (hy := fun wz hwz => ?h0b2) (ha := ?b0b2) (h := ?_)
  case h0b2 => (go_simp; try with_reducible rfl)
  case b0b2 => (simp only [Act.put, List.setIfInBounds_toArray, List.set_cons_zero, List.set_cons_succ]; rfl)
  refine Rg.op 1 (some 9) hS (v := (.int .i64 no)) (a' := ?a1b2) (hy := fun wz hwz => ?h1b2) (ha := ?b1b2) (h := ?_)
  case h1b2 => (have cx := (hwz.cell (p := ⟨gx, 0, none⟩) zx (fun h => h)).trans x0; have hpp := Nat.lt_of_lt_of_le zx hwz.size; go_simp; try with_reducible rfl)
  case b1b2 => (simp only [Act.put, List.setIfInBounds_toArray, List.set_cons_zero, List.set_cons_succ]; rfl)
  refine Rg.op 2 (some 10) hS (v := (.bool false)) (a' := ?a2b2) (hy := fun wz hwz => ?h2b2) (ha := ?b2b2) (h := ?_)
  case h2b2 => (have hq := t0; go_simp; try with_reducible rfl)
  case b2b2 => (simp only [Act.put, List.setIfInBounds_toArray, List.set_cons_zero, List.set_cons_succ]; rfl)
  refine Rg.op 3 (some 11) hS (v := ?v3b2) (a' := ?a3b2) (hy := fun wz hwz => ?h3b2) (ha := ?b3b2) (h := ?_)
  case h3b2 => (go_simp; try with_reducible rfl)
  case b3b2 => (simp only [Act.put, List.setIfInBounds_toArray, List.set_cons_zero, List.set_cons_succ]; rfl)
  refine Rg.op 4 (some 12) hS (v := ?v4b2) (a' := ?a4b2) (hy := fun wz hwz => ?h4b2) (ha := ?b4b2) (h := ?_)
  case h4b2 => (go_simp; try with_reducible rfl)
  case b4b2 => (simp only [Act.put, List.setIfInBounds_toArray, List.set_cons_zero, List.set_cons_succ]; rfl)
  refine Rg.op 5 (some 13) hS (v := (.int .i64 no)) (a' := ?a5b2) (hy := fun wz hwz => ?h5b2) (ha := ?b5b2) (h := ?_)
  case h5b2 => (have cx := (hwz.cell (p := ⟨gx, 0, none⟩) zx (fun h => h)).trans x0; have hpp := Nat.lt_of_lt_of_le zx hwz.size; go_simp; try with_reducible rfl)
  case b5b2 => (simp only [Act.put, List.setIfInBounds_toArray, List.set_cons_zero, List.set_cons_succ]; rfl)
  refine Rg.op 6 (some 14) hS (v := ?v6b2) (a' := ?a6b2) (hy := fun wz hwz => ?h6b2) (ha := ?b6b2) (h := ?_)
  case h6b2 => (go_simp; try with_reducible rfl)
  case b6b2 => (simp only [Act.put, List.setIfInBounds_toArray, List.set_cons_zero, List.set_cons_succ]; rfl)
  refine Rg.op 7 (some 15) hS (v := ?v7b2) (a' := ?a7b2) (hy := fun wz hwz => ?h7b2) (ha := ?b7b2) (h := ?_)
  case h7b2 => (have hpp := Nat.lt_of_lt_of_le zp hwz.size; go_simp; try with_reducible rfl)
  case b7b2 => (simp only [Act.put, List.setIfInBounds_toArray, List.set_cons_zero, List.set_cons_succ]; rfl)
  refine Rg.op 8 (some 16) hS (v := ?v8b2) (a' := ?a8b2) (hy := fun wz hwz => ?h8b2) (ha := ?b8b2) (h := ?_)
  case h8b2 => (have hpp := Nat.lt_of_lt_of_le zp hwz.size; go_simp; try with_reducible rfl)
  case b8b2 => (simp only [Act.put, List.setIfInBounds_toArray, List.set_cons_zero, List.set_cons_succ]; rfl)
  refine Rg.op 9 (some 17) hS (v := (.pointer (some ⟨f, 0, none⟩))) (a' := ?a9b2) (hy := fun wz hwz => ?h9b2) (ha := ?b9b2) (h := ?_)
  case h9b2 => (have cx := (hwz.cell (p := ⟨p, 0, none⟩) zp (fun h => h)).trans p0; have hpp := Nat.lt_of_lt_of_le zp hwz.size; go_simp; try with_reducible rfl)
  case b9b2 => (simp only [Act.put, List.setIfInBounds_toArray, List.set_cons_zero, List.set_cons_succ]; rfl)
  refine Rg.call 10 (some 18) (hrun := ?h10b2) (hcall := Pages_any (HIn.out.und.file.fr hS (fun h => h))) (h := ?_)
  case h10b2 => (go_simp)
  rintro e w3b2 ⟨rfl, rfl⟩
  refine ⟨_, ?a10b2, rfl, ?b10b2, (fun _ => hS), ?_⟩
  case b10b2 => (simp only [Act.put, List.setIfInBounds_toArray, List.set_cons_zero, List.set_cons_succ]; rfl)
  refine Rg.op 11 (some 19) hS (v := (.bool false)) (a' := ?a11b2) (hy := fun wz hwz => ?h11b2) (ha := ?b11b2) (h := ?_)
  case h11b2 => (have hq := t1; go_simp; try with_reducible rfl)
  case b11b2 => (simp only [Act.put, List.setIfInBounds_toArray, List.set_cons_zero, List.set_cons_succ]; rfl)
  refine Rg.op 12 (some 20) hS (v := (.bool false)) (a' := ?a12b2) (hy := fun wz hwz => ?h12b2) (ha := ?b12b2) (h := ?_)
  case h12b2 => (go_simp; try with_reducible rfl)
  case b12b2 => (simp only [Act.put, List.setIfInBounds_toArray, List.set_cons_zero, List.set_cons_succ]; rfl)
  refine Rg.op 13 (some 21) hS (v := ?v13b2) (a' := ?a13b2) (hy := fun wz hwz => ?h13b2) (ha := ?b13b2) (h := ?_)
  case h13b2 => (go_simp; try with_reducible rfl)
  case b13b2 => (simp only [Act.put, List.setIfInBounds_toArray, List.set_cons_zero, List.set_cons_succ]; rfl)
  refine Rg.op 14 (some 22) hS (v := ?v14b2) (a' := ?a14b2) (hy := fun wz hwz => ?h14b2) (ha := ?b14b2) (h := ?_)
  case h14b2 => (go_simp; try with_reducible rfl)
  case b14b2 => (simp only [Act.put, List.setIfInBounds_toArray, List.set_cons_zero, List.set_cons_succ]; rfl)
  refine Rg.op 15 (some 23) hS (v := (.slice A n c)) (a' := ?a15b2) (hy := fun wz hwz => ?h15b2) (ha := ?b15b2) (h := ?_)
  case h15b2 => (have cx := (hwz.cell (p := ⟨gx, 2, none⟩) zx (fun h => h)).trans x2; have hpp := Nat.lt_of_lt_of_le zx hwz.size; go_simp; try with_reducible rfl)
  case b15b2 => (simp only [Act.put, List.setIfInBounds_toArray, List.set_cons_zero, List.set_cons_succ]; rfl)
  refine Rg.op 16 (some 24) hS (v := (.int .i64 n)) (a' := ?a16b2) (hy := fun wz hwz => ?h16b2) (ha := ?b16b2) (h := ?_)
  case h16b2 => (have hq := qB; go_simp; try with_reducible rfl)
  case b16b2 => (simp only [Act.put, List.setIfInBounds_toArray, List.set_cons_zero, List.set_cons_succ]; rfl)
  refine Rg.op 17 (some 25) hS (v := (.bool true)) (a' := ?a17b2) (hy := fun wz hwz => ?h17b2) (ha := ?b17b2) (h := ?_)
  case h17b2 => (have hq := t2; go_simp; try with_reducible rfl)
  case b17b2 => (simp only [Act.put, List.setIfInBounds_toArray, List.set_cons_zero, List.set_cons_succ]; rfl)
  refine Rg.op 18 (some 26) hS (v := (.bool true)) (a' := ?a18b2) (hy := fun wz hwz => ?h18b2) (ha := ?b18b2) (h := ?_)
  case h18b2 => (go_simp; try with_reducible rfl)
  case b18b2 => (simp only [Act.put, List.setIfInBounds_toArray, List.set_cons_zero, List.set_cons_succ]; rfl)
  refine Rg.op 19 (some 27) hS (v := ?v19b2) (a' := ?a19b2) (hy := fun wz hwz => ?h19b2) (ha := ?b19b2) (h := ?_)
  case h19b2 => (go_simp; try with_reducible rfl)
  case b19b2 => (simp only [Act.put, List.setIfInBounds_toArray, List.set_cons_zero, List.set_cons_succ]; rfl)
  refine Rg.pass 20 (some 28) hS (a' := ?a20b2) (ha := ?b20b2) (h := ?_)
  case b20b2 => (simp only [Act.put, List.setIfInBounds_toArray, List.set_cons_zero, List.set_cons_succ]; rfl)
  refine Rg.pass 21 (some 29) hS (a' := ?a21b2) (ha := ?b21b2) (h := ?_)
  case b21b2 => (simp only [Act.put, List.setIfInBounds_toArray, List.set_cons_zero, List.set_cons_succ]; rfl)
  refine Rg.pass 22 (some 30) hS (a' := ?a22b2) (ha := ?b22b2) (h := ?_)
  case b22b2 => (simp only [Act.put, List.setIfInBounds_toArray, List.set_cons_zero, List.set_cons_succ]; rfl)
  refine Rg.pass 23 (some 31) hS (a' := ?a23b2) (ha := ?b23b2) (h := ?_)
  case b23b2 => (simp only [Act.put, List.setIfInBounds_toArray, List.set_cons_zero, List.set_cons_succ]; rfl)
  refine Rg.pass 24 (some 32) hS (a' := ?a24b2) (ha := ?b24b2) (h := ?_)
  case b24b2 => (simp only [Act.put, List.setIfInBounds_toArray, List.set_cons_zero, List.set_cons_succ]; rfl)
  refine Rg.pass 25 (some 33) hS (a' := ?a25b2) (ha := ?b25b2) (h := ?_)
  case b25b2 => (simp only [Act.put, List.setIfInBounds_toArray, List.set_cons_zero, List.set_cons_succ]; rfl)
  refine Rg.pass 26 (some 34) hS (a' := ?a26b2) (ha := ?b26b2) (h := ?_)
  case b26b2 => (simp only [Act.put, List.setIfInBounds_toArray, List.set_cons_zero, List.set_cons_succ]; rfl)
  refine Rg.pass 27 (some 35) hS (a' := ?a27b2) (ha := ?b27b2) (h := ?_)
  case b27b2 => (simp only [Act.put, List.setIfInBounds_toArray, List.set_cons_zero, List.set_cons_succ]; rfl)
  refine Rg.op 28 (some 36) hS (v := (.bool true)) (a' := ?a28b2) (hy := fun wz hwz => ?h28b2) (ha := ?b28b2) (h := ?_)
  case h28b2 => (go_simp; try with_reducible rfl)
  case b28b2 => (simp only [Act.put, List.setIfInBounds_toArray, List.set_cons_zero, List.set_cons_succ]; rfl)
  refine Rg.done _ (h := ?_)
  go_wp2
  go_ret
  exact ⟨rfl, HFa.out.drew⟩
set_option maxHeartbeats 3200000 in
set_option maxRecDepth 100000 in
theorem Put_bad3 (h : PIn w p f l d pages frames V L M N RP RQ RL RD hand B rv fs cur S T lot) (no lsn : Int) (A : Option Addr) (c : Nat) (h1 : ¬ no < 0) (h2 : ¬ (pages : Int) ≤ no) (h4 : (L.next : Int) ≤ lsn) :
    Calls Tryz.prog 8 #[.pointer (some ⟨p, 0, none⟩), .agg #[.int .i64 no, .int .u64 lsn, .slice A 480 c]] w fun e w' => e = .returned (.int .i64 1) ∧ Fr Nob w w' := by
  have qB := len_by
  obtain ⟨gx, hgx⟩ : ∃ g, w.heap.size = g := ⟨_, rfl⟩
  have HGx := Lib.hid hgx
  have hfa : Fr Nob w (w.alloc (.cells #[.int .i64 no, .int .u64 lsn, .slice A 480 c] 40)) := (Fr.refl _ w).alloc _
  have hbx : Blk (w.alloc (.cells #[.int .i64 no, .int .u64 lsn, .slice A 480 c] 40)) gx 40 #[.int .i64 no, .int .u64 lsn, .slice A 480 c] := by rw [← hgx]; exact Blk.new _ _ _
  have hin := h.new hfa
  obtain ⟨wa, hwa⟩ : ∃ W, w.alloc (.cells #[.int .i64 no, .int .u64 lsn, .slice A 480 c] 40) = W := ⟨_, rfl⟩
  rw [hwa] at hfa hbx hin
  have HIn := Lib.hid hin
  have HFa := Lib.hid hfa
  have HBx := Lib.hid hbx
  have x0 := hbx.cell 0
  have x1 := hbx.cell 1
  have x2 := hbx.cell 2
  have zx := hbx.lt
  have p0 := hin.pool.blk.cell 0
  have p1 := hin.pool.blk.cell 1
  have zp := hin.pool.blk.lt
  have hpg := h.und.pg2
  simp only [List.getElem?_toArray, List.getElem?_cons_zero, List.getElem?_cons_succ] at x0 x1 x2 p0 p1
  have t0 : ¬ no < 0 := h1
  have t1 : ¬ (pages : Int) ≤ no := h2
  have t2 : True := trivial
  have t3 : (L.next : Int) ≤ lsn := h4
  clear h hin hfa hbx
  go_enter Tryz.func8, Tryz.ntmps8
  go_wp2
  have hS : Fr Nob wa wa.drew := (Fr.refl _ wa).drew
  refine Rg.begin (Fr Nob wa) [] (by kernel_rfl) ?_
  refine Rg.op 0 (some 8) hS (v := ?v0b3) (a' := ?a0b3) (hy := fun wz hwz => ?h0b3) (ha := ?b0b3) (h := ?_)
  case h0b3 => (go_simp; try with_reducible rfl)
  case b0b3 => (simp only [Act.put, List.setIfInBounds_toArray, List.set_cons_zero, List.set_cons_succ]; rfl)
  refine Rg.op 1 (some 9) hS (v := (.int .i64 no)) (a' := ?a1b3) (hy := fun wz hwz => ?h1b3) (ha := ?b1b3) (h := ?_)
  case h1b3 => (have cx := (hwz.cell (p := ⟨gx, 0, none⟩) zx (fun h => h)).trans x0; have hpp := Nat.lt_of_lt_of_le zx hwz.size; go_simp; try with_reducible rfl)
  case b1b3 => (simp only [Act.put, List.setIfInBounds_toArray, List.set_cons_zero, List.set_cons_succ]; rfl)
  refine Rg.op 2 (some 10) hS (v := (.bool false)) (a' := ?a2b3) (hy := fun wz hwz => ?h2b3) (ha := ?b2b3) (h := ?_)
  case h2b3 => (have hq := t0; go_simp; try with_reducible rfl)
  case b2b3 => (simp only [Act.put, List.setIfInBounds_toArray, List.set_cons_zero, List.set_cons_succ]; rfl)
  refine Rg.op 3 (some 11) hS (v := ?v3b3) (a' := ?a3b3) (hy := fun wz hwz => ?h3b3) (ha := ?b3b3) (h := ?_)
  case h3b3 => (go_simp; try with_reducible rfl)
  case b3b3 => (simp only [Act.put, List.setIfInBounds_toArray, List.set_cons_zero, List.set_cons_succ]; rfl)
  refine Rg.op 4 (some 12) hS (v := ?v4b3) (a' := ?a4b3) (hy := fun wz hwz => ?h4b3) (ha := ?b4b3) (h := ?_)
  case h4b3 => (go_simp; try with_reducible rfl)
  case b4b3 => (simp only [Act.put, List.setIfInBounds_toArray, List.set_cons_zero, List.set_cons_succ]; rfl)
  refine Rg.op 5 (some 13) hS (v := (.int .i64 no)) (a' := ?a5b3) (hy := fun wz hwz => ?h5b3) (ha := ?b5b3) (h := ?_)
  case h5b3 => (have cx := (hwz.cell (p := ⟨gx, 0, none⟩) zx (fun h => h)).trans x0; have hpp := Nat.lt_of_lt_of_le zx hwz.size; go_simp; try with_reducible rfl)
  case b5b3 => (simp only [Act.put, List.setIfInBounds_toArray, List.set_cons_zero, List.set_cons_succ]; rfl)
  refine Rg.op 6 (some 14) hS (v := ?v6b3) (a' := ?a6b3) (hy := fun wz hwz => ?h6b3) (ha := ?b6b3) (h := ?_)
  case h6b3 => (go_simp; try with_reducible rfl)
  case b6b3 => (simp only [Act.put, List.setIfInBounds_toArray, List.set_cons_zero, List.set_cons_succ]; rfl)
  refine Rg.op 7 (some 15) hS (v := ?v7b3) (a' := ?a7b3) (hy := fun wz hwz => ?h7b3) (ha := ?b7b3) (h := ?_)
  case h7b3 => (have hpp := Nat.lt_of_lt_of_le zp hwz.size; go_simp; try with_reducible rfl)
  case b7b3 => (simp only [Act.put, List.setIfInBounds_toArray, List.set_cons_zero, List.set_cons_succ]; rfl)
  refine Rg.op 8 (some 16) hS (v := ?v8b3) (a' := ?a8b3) (hy := fun wz hwz => ?h8b3) (ha := ?b8b3) (h := ?_)
  case h8b3 => (have hpp := Nat.lt_of_lt_of_le zp hwz.size; go_simp; try with_reducible rfl)
  case b8b3 => (simp only [Act.put, List.setIfInBounds_toArray, List.set_cons_zero, List.set_cons_succ]; rfl)
  refine Rg.op 9 (some 17) hS (v := (.pointer (some ⟨f, 0, none⟩))) (a' := ?a9b3) (hy := fun wz hwz => ?h9b3) (ha := ?b9b3) (h := ?_)
  case h9b3 => (have cx := (hwz.cell (p := ⟨p, 0, none⟩) zp (fun h => h)).trans p0; have hpp := Nat.lt_of_lt_of_le zp hwz.size; go_simp; try with_reducible rfl)
  case b9b3 => (simp only [Act.put, List.setIfInBounds_toArray, List.set_cons_zero, List.set_cons_succ]; rfl)
  refine Rg.call 10 (some 18) (hrun := ?h10b3) (hcall := Pages_any (HIn.out.und.file.fr hS (fun h => h))) (h := ?_)
  case h10b3 => (go_simp)
  rintro e w3b3 ⟨rfl, rfl⟩
  refine ⟨_, ?a10b3, rfl, ?b10b3, (fun _ => hS), ?_⟩
  case b10b3 => (simp only [Act.put, List.setIfInBounds_toArray, List.set_cons_zero, List.set_cons_succ]; rfl)
  refine Rg.op 11 (some 19) hS (v := (.bool false)) (a' := ?a11b3) (hy := fun wz hwz => ?h11b3) (ha := ?b11b3) (h := ?_)
  case h11b3 => (have hq := t1; go_simp; try with_reducible rfl)
  case b11b3 => (simp only [Act.put, List.setIfInBounds_toArray, List.set_cons_zero, List.set_cons_succ]; rfl)
  refine Rg.op 12 (some 20) hS (v := (.bool false)) (a' := ?a12b3) (hy := fun wz hwz => ?h12b3) (ha := ?b12b3) (h := ?_)
  case h12b3 => (go_simp; try with_reducible rfl)
  case b12b3 => (simp only [Act.put, List.setIfInBounds_toArray, List.set_cons_zero, List.set_cons_succ]; rfl)
  refine Rg.op 13 (some 21) hS (v := ?v13b3) (a' := ?a13b3) (hy := fun wz hwz => ?h13b3) (ha := ?b13b3) (h := ?_)
  case h13b3 => (go_simp; try with_reducible rfl)
  case b13b3 => (simp only [Act.put, List.setIfInBounds_toArray, List.set_cons_zero, List.set_cons_succ]; rfl)
  refine Rg.op 14 (some 22) hS (v := ?v14b3) (a' := ?a14b3) (hy := fun wz hwz => ?h14b3) (ha := ?b14b3) (h := ?_)
  case h14b3 => (go_simp; try with_reducible rfl)
  case b14b3 => (simp only [Act.put, List.setIfInBounds_toArray, List.set_cons_zero, List.set_cons_succ]; rfl)
  refine Rg.op 15 (some 23) hS (v := (.slice A 480 c)) (a' := ?a15b3) (hy := fun wz hwz => ?h15b3) (ha := ?b15b3) (h := ?_)
  case h15b3 => (have cx := (hwz.cell (p := ⟨gx, 2, none⟩) zx (fun h => h)).trans x2; have hpp := Nat.lt_of_lt_of_le zx hwz.size; go_simp; try with_reducible rfl)
  case b15b3 => (simp only [Act.put, List.setIfInBounds_toArray, List.set_cons_zero, List.set_cons_succ]; rfl)
  refine Rg.op 16 (some 24) hS (v := (.int .i64 480)) (a' := ?a16b3) (hy := fun wz hwz => ?h16b3) (ha := ?b16b3) (h := ?_)
  case h16b3 => (have hq := qB; go_simp; try with_reducible rfl)
  case b16b3 => (simp only [Act.put, List.setIfInBounds_toArray, List.set_cons_zero, List.set_cons_succ]; rfl)
  refine Rg.op 17 (some 25) hS (v := (.bool false)) (a' := ?a17b3) (hy := fun wz hwz => ?h17b3) (ha := ?b17b3) (h := ?_)
  case h17b3 => (have hq := t2; go_simp; try with_reducible rfl)
  case b17b3 => (simp only [Act.put, List.setIfInBounds_toArray, List.set_cons_zero, List.set_cons_succ]; rfl)
  refine Rg.op 18 (some 26) hS (v := (.bool false)) (a' := ?a18b3) (hy := fun wz hwz => ?h18b3) (ha := ?b18b3) (h := ?_)
  case h18b3 => (go_simp; try with_reducible rfl)
  case b18b3 => (simp only [Act.put, List.setIfInBounds_toArray, List.set_cons_zero, List.set_cons_succ]; rfl)
  refine Rg.op 19 (some 27) hS (v := ?v19b3) (a' := ?a19b3) (hy := fun wz hwz => ?h19b3) (ha := ?b19b3) (h := ?_)
  case h19b3 => (go_simp; try with_reducible rfl)
  case b19b3 => (simp only [Act.put, List.setIfInBounds_toArray, List.set_cons_zero, List.set_cons_succ]; rfl)
  refine Rg.op 20 (some 28) hS (v := ?v20b3) (a' := ?a20b3) (hy := fun wz hwz => ?h20b3) (ha := ?b20b3) (h := ?_)
  case h20b3 => (go_simp; try with_reducible rfl)
  case b20b3 => (simp only [Act.put, List.setIfInBounds_toArray, List.set_cons_zero, List.set_cons_succ]; rfl)
  refine Rg.op 21 (some 29) hS (v := (.int .u64 lsn)) (a' := ?a21b3) (hy := fun wz hwz => ?h21b3) (ha := ?b21b3) (h := ?_)
  case h21b3 => (have cx := (hwz.cell (p := ⟨gx, 1, none⟩) zx (fun h => h)).trans x1; have hpp := Nat.lt_of_lt_of_le zx hwz.size; go_simp; try with_reducible rfl)
  case b21b3 => (simp only [Act.put, List.setIfInBounds_toArray, List.set_cons_zero, List.set_cons_succ]; rfl)
  refine Rg.op 22 (some 30) hS (v := ?v22b3) (a' := ?a22b3) (hy := fun wz hwz => ?h22b3) (ha := ?b22b3) (h := ?_)
  case h22b3 => (go_simp; try with_reducible rfl)
  case b22b3 => (simp only [Act.put, List.setIfInBounds_toArray, List.set_cons_zero, List.set_cons_succ]; rfl)
  refine Rg.op 23 (some 31) hS (v := ?v23b3) (a' := ?a23b3) (hy := fun wz hwz => ?h23b3) (ha := ?b23b3) (h := ?_)
  case h23b3 => (have hpp := Nat.lt_of_lt_of_le zp hwz.size; go_simp; try with_reducible rfl)
  case b23b3 => (simp only [Act.put, List.setIfInBounds_toArray, List.set_cons_zero, List.set_cons_succ]; rfl)
  refine Rg.op 24 (some 32) hS (v := ?v24b3) (a' := ?a24b3) (hy := fun wz hwz => ?h24b3) (ha := ?b24b3) (h := ?_)
  case h24b3 => (have hpp := Nat.lt_of_lt_of_le zp hwz.size; go_simp; try with_reducible rfl)
  case b24b3 => (simp only [Act.put, List.setIfInBounds_toArray, List.set_cons_zero, List.set_cons_succ]; rfl)
  refine Rg.op 25 (some 33) hS (v := (.pointer (some ⟨l, 0, none⟩))) (a' := ?a25b3) (hy := fun wz hwz => ?h25b3) (ha := ?b25b3) (h := ?_)
  case h25b3 => (have cx := (hwz.cell (p := ⟨p, 1, none⟩) zp (fun h => h)).trans p1; have hpp := Nat.lt_of_lt_of_le zp hwz.size; go_simp; try with_reducible rfl)
  case b25b3 => (simp only [Act.put, List.setIfInBounds_toArray, List.set_cons_zero, List.set_cons_succ]; rfl)
  refine Rg.call 26 (some 34) (hrun := ?h26b3) (hcall := Next_any (HIn.out.und.log.new hS)) (h := ?_)
  case h26b3 => (go_simp)
  rintro e w4b3 ⟨rfl, rfl⟩
  refine ⟨_, ?a26b3, rfl, ?b26b3, (fun _ => hS), ?_⟩
  case b26b3 => (simp only [Act.put, List.setIfInBounds_toArray, List.set_cons_zero, List.set_cons_succ]; rfl)
  refine Rg.op 27 (some 35) hS (v := (.bool true)) (a' := ?a27b3) (hy := fun wz hwz => ?h27b3) (ha := ?b27b3) (h := ?_)
  case h27b3 => (have hq := t3; go_simp; try with_reducible rfl)
  case b27b3 => (simp only [Act.put, List.setIfInBounds_toArray, List.set_cons_zero, List.set_cons_succ]; rfl)
  refine Rg.op 28 (some 36) hS (v := (.bool true)) (a' := ?a28b3) (hy := fun wz hwz => ?h28b3) (ha := ?b28b3) (h := ?_)
  case h28b3 => (go_simp; try with_reducible rfl)
  case b28b3 => (simp only [Act.put, List.setIfInBounds_toArray, List.set_cons_zero, List.set_cons_succ]; rfl)
  refine Rg.done _ (h := ?_)
  go_wp2
  go_ret
  exact ⟨rfl, HFa.out.drew⟩
theorem Put_bad (h : PIn w p f l d pages frames V L M N RP RQ RL RD hand B rv fs cur S T lot) (no lsn : Int) (A : Option Addr) (n c : Nat) (hb : no < 0 ∨ (pages : Int) ≤ no ∨ n ≠ 480 ∨ (L.next : Int) ≤ lsn) :
    Calls Tryz.prog 8 #[.pointer (some ⟨p, 0, none⟩), .agg #[.int .i64 no, .int .u64 lsn, .slice A n c]] w fun e w' => e = .returned (.int .i64 1) ∧ Fr Nob w w' := by
  by_cases h1 : no < 0
  · exact Put_bad0 h no lsn A n c h1
  · by_cases h2 : (pages : Int) ≤ no
    · exact Put_bad1 h no lsn A n c h1 h2
    · by_cases h3 : n = 480
      · subst h3
        exact Put_bad3 h no lsn A c h1 h2 (by
          rcases hb with hb | hb | hb | hb
          · exact absurd hb h1
          · exact absurd hb h2
          · exact absurd rfl hb
          · exact hb)
      · exact Put_bad2 h no lsn A n c h1 h2 h3
end
end Go.Proofs.YtccmmnacejdeoaaGreatDoor
