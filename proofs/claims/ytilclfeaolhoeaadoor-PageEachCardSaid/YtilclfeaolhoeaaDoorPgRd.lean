/-
  Read: a page of a file that is sound.
-/
import Derived.Test.YtilclfeaolhoeaaDoorPgOpen
namespace Go.Proofs.YtilclfeaolhoeaaDoor
set_option linter.unusedSimpArgs false
set_option linter.unusedVariables false
open Go.RowKit

/-- The page that stands at a place. -/
def pgAt (now : List (List UInt8)) (at0 no : Nat) : PgV :=
  if (secN now (at0 + 8 * no) 8).all (· == 0) = true then ⟨no, 0, zeros 480⟩ else pgX (secN now (at0 + 8 * no) 8)
theorem results_cell_rowP {P : Program} {fn : Func} {p u : Tmp} {ty : TypeId} (h : fn.results = #[.cell p ty, .tmp u]) (tmps : Array Value) (w : World) (g : Nat) (t : TypeId) (cs : Array Value) (d : TypeDesc)
    (hp : tmps.getD p undef = .pointer (some ⟨g, 0, none⟩)) (hg : Blk w g t cs)
    (hu : P.underlying ty = some d) (hd : (match d with | .struct _ | .array _ _ => true | _ => false) = true) (hi : (P.info? ty).map (·.size) = some cs.size) :
    (results fn tmps).run P w = .ok (.tuple #[.agg cs, tmps.getD u undef]) w := by
  have hp' : tmps[p]?.getD undef = .pointer (some ⟨g, 0, none⟩) := by simpa using hp
  simp [results, h, hp', asAddr, run_loadVar_row w g t ty cs (0, 0) d hg hu hd hi, Sem.run_bind, Result.andThen]
theorem make480 (w : World) : (Instr.makeSlice 35 (.int .i64 480) (.int .i64 480)).run Tryd.prog w = .ok (.slice (some ⟨w.heap.size, 0, none⟩) 480 480) (w.alloc (.cells (zeroCells 480) 5)) :=
  run_make_row' (P := Tryd.prog) 35 5 (.int .u8 0) 1 Tryd.underlying35 info_u8z rfl .i64 .i64 480 (by omega) (by omega) w

set_option maxHeartbeats 3200000 in
set_option maxRecDepth 100000 in
theorem pgRead_any {R : Nat → Prop} {w : World} {p d at0 pages turn : Nat} {S : DS} (no : Nat) (h : FileAt w p d at0 pages turn) (hd : DiskOk R w d S) (hl : S.dead = false) (hp : PSound S.now at0 pages) (hno : no < pages) :
    Calls Tryd.prog 25 #[.pointer (some ⟨p, 0, none⟩), .int .i64 no] w fun e w' => ∃ g o, e = .returned (.tuple #[.agg #[.int .i64 no, .int .u64 (pgAt S.now at0 no).lsn, .slice (some ⟨g, o, none⟩) 480 480], .int .i64 0]) ∧ BytesIn w' (some ⟨g, o, none⟩) (pgAt S.now at0 no).d ∧ w.heap.size ≤ g ∧ g < w'.heap.size ∧ Fr Nob w w' := by
  have hmk := make480
  have hsm := hd.small
  have hln := hp.len
  have HCl := Lib.hid (hp.l512 no hno)
  have HPg := Lib.hid (hp.page no hno)
  obtain ⟨gr, hgr⟩ : ∃ g, w.heap.size = g := ⟨_, rfl⟩
  have HGr := Lib.hid hgr
  have hp0 := h.lt
  have hfa : FileAt (w.alloc (.cells #[.int .i64 0, .int .u64 0, .slice none 0 0] 37)) p d at0 pages turn := h.alloc _
  have hba : Blk (w.alloc (.cells #[.int .i64 0, .int .u64 0, .slice none 0 0] 37)) gr 37 #[.int .i64 0, .int .u64 0, .slice none 0 0] := by rw [← hgr]; exact Blk.new _ _ _
  have hfr : Fr Nob w (w.alloc (.cells #[.int .i64 0, .int .u64 0, .slice none 0 0] 37)) := (Fr.refl _ w).alloc _
  obtain ⟨wa, hwa⟩ : ∃ W, w.alloc (.cells #[.int .i64 0, .int .u64 0, .slice none 0 0] 37) = W := ⟨_, rfl⟩
  rw [hwa] at hfa hba hfr
  have HFa := Lib.hid hfa
  have HBa := Lib.hid hba
  have HFr := Lib.hid hfr
  have HRd := Lib.hid (pgRead8_any (at0 + 8 * no) hfa (hd.new hfr) hl (by omega) (by omega))
  have HAt : Hid (pgAt S.now at0 no = if (secN S.now (at0 + 8 * no) 8).all (· == 0) = true then ⟨no, 0, zeros 480⟩ else pgX (secN S.now (at0 + 8 * no) 8)) := rfl
  have c1 := Blk.cell hfa 1
  have c2 := Blk.cell hfa 2
  have lp := Blk.lt hfa
  simp only [List.getElem?_toArray, List.getElem?_cons_zero, List.getElem?_cons_succ] at c1 c2
  obtain ⟨b, hb⟩ : ∃ b, secN S.now (at0 + 8 * no) 8 = b := ⟨_, rfl⟩
  rw [hb] at HRd HCl HPg HAt
  rw [show ((at0 + 8 * no : Nat) : Int) = (at0 : Int) + 8 * (no : Int) from by omega] at HRd
  have u1 : IntKind.i64.wrap (8 * (no : Int)) = 8 * (no : Int) := by rw [IntKind.wrap_i64]; omega
  have u2 : IntKind.i64.wrap ((at0 : Int) + 8 * (no : Int)) = (at0 : Int) + 8 * (no : Int) := by rw [IntKind.wrap_i64]; omega
  have t1 : ¬ (no : Int) < 0 := by omega
  have t2 : ¬ (no : Int) ≥ (pages : Int) := by omega
  have t3 : ¬ (pages : Int) ≤ (no : Int) := by omega
  obtain ⟨xa, hxa⟩ : ∃ x, pgAt S.now at0 no = x := ⟨_, rfl⟩
  rw [hxa] at HAt ⊢
  clear h hd hl hp hfa hba hfr hb hln hxa
  go_enter Tryd.func25, Tryd.ntmps25
  go_wp2_with fail
  refine HRd.out.mono ?_
  rintro e w1 ⟨g1, cp1, rfl, hb1, hg1, hf1⟩
  have HB1 := Lib.hid hb1
  have HF1 := Lib.hid hf1
  have HNo := Lib.hid (none_any _ cp1 _ w1 hb1 HCl.out)
  clear hb1 hf1 HRd hwa hgr c1 c2
  rcases HPg.out with hall | ⟨hall, hok, hn, htu⟩
  · have HNo : Hid (Calls Tryd.prog 35 #[.slice (some ⟨g1, 0, none⟩) 512 cp1] w1 fun e w' => e = .returned (.bool true) ∧ Fr Nob w1 w') := by
      have := HNo.out
      rw [hall] at this
      exact this
    have HX : Hid (xa = ⟨no, 0, zeros 480⟩) := by show _ = _; rw [HAt.out, if_pos hall]
    clear hall HPg
    go_wp2_with fail
    refine HNo.out.mono ?_
    rintro e w2 ⟨rfl, hf2⟩
    have HF2 : Hid (Fr Nob wa w2) := HF1.out.trans hf2
    have HB2 : Hid (Blk w2 gr 37 #[.int .i64 0, .int .u64 0, .slice none 0 0]) := HBa.out.fr HF2.out (fun h => h)
    have hb := HB2.out
    have d0 := hb.cell 0
    have d1 := hb.cell 1
    have d2 := hb.cell 2
    have f0 := hb.frozen 0
    have f1 := hb.frozen 1
    have f2 := hb.frozen 2
    have hpg := hb.lt
    simp only [List.getElem?_toArray, List.getElem?_cons_zero, List.getElem?_cons_succ] at d0 d1 d2
    clear hb hf2
    go_wp2
    have hz : w2.heap.size = (((w2.setCell ⟨gr, 0, none⟩ (.int .i64 no)).setCell ⟨gr, 1, none⟩ (.int .u64 0)).setCell ⟨gr, 2, none⟩ (.slice (some ⟨w2.heap.size, 0, none⟩) 480 480)).heap.size := by simp [World.setCell]
    have hbE : Blk ((((w2.setCell ⟨gr, 0, none⟩ (.int .i64 no)).setCell ⟨gr, 1, none⟩ (.int .u64 0)).setCell ⟨gr, 2, none⟩ (.slice (some ⟨w2.heap.size, 0, none⟩) 480 480)).alloc (.cells (zeroCells 480) 5)) gr 37 #[.int .i64 no, .int .u64 0, .slice (some ⟨w2.heap.size, 0, none⟩) 480 480] := (((HB2.out.set_ 0 _).set_ 1 _).set_ 2 _).alloc _
    have hbN : Blk ((((w2.setCell ⟨gr, 0, none⟩ (.int .i64 no)).setCell ⟨gr, 1, none⟩ (.int .u64 0)).setCell ⟨gr, 2, none⟩ (.slice (some ⟨w2.heap.size, 0, none⟩) 480 480)).alloc (.cells (zeroCells 480) 5)) w2.heap.size 5 (zeroCells 480) := by
      have := Blk.new (((w2.setCell ⟨gr, 0, none⟩ (.int .i64 no)).setCell ⟨gr, 1, none⟩ (.int .u64 0)).setCell ⟨gr, 2, none⟩ (.slice (some ⟨w2.heap.size, 0, none⟩) 480 480)) 5 (zeroCells 480)
      rwa [← hz] at this
    have hfE : Fr (fun x => x = gr) wa ((((w2.setCell ⟨gr, 0, none⟩ (.int .i64 no)).setCell ⟨gr, 1, none⟩ (.int .u64 0)).setCell ⟨gr, 2, none⟩ (.slice (some ⟨w2.heap.size, 0, none⟩) 480 480)).alloc (.cells (zeroCells 480) 5)) :=
      ((((HF2.out.mono (fun _ _ h => h.elim) : Fr (fun x => x = gr) wa w2).setCell (p := ⟨gr, 0, none⟩) (.inr rfl) _).setCell (p := ⟨gr, 1, none⟩) (.inr rfl) _).setCell (p := ⟨gr, 2, none⟩) (.inr rfl) _).alloc _
    refine bodyPost_ret (results_cell_rowP rfl _ _ _ _ _ _ rfl hbE Tryd.underlying37 rfl page_size) rfl ⟨w2.heap.size, 0, ?_, ?_, by have := HGr.out; have := HFr.out.size; have := HF2.out.size; omega, hbN.lt, HFr.out.step hfE (fun i hi h => by have := HGr.out; omega)⟩
    · rw [HX.out]; rfl
    · rw [HX.out]; exact bytesIn_of (by rw [← zeroCells_eq]; exact hbN)
  · have HNo : Hid (Calls Tryd.prog 35 #[.slice (some ⟨g1, 0, none⟩) 512 cp1] w1 fun e w' => e = .returned (.bool false) ∧ Fr Nob w1 w') := by
      have := HNo.out
      rw [hall] at this
      exact this
    have HX : Hid (xa = pgX b) := by show _ = _; rw [HAt.out, if_neg (by rw [hall]; decide)]
    have HPs : Hid (∀ W, Fr Nob w1 W → Calls Tryd.prog 36 #[.slice (some ⟨g1, 0, none⟩) 512 cp1] W fun e w' => ∃ g, e = .returned (.tuple #[.agg #[.int .i64 no, .int .u64 (pgX b).lsn, .slice (some ⟨g, 32, none⟩) 480 480], .int .u64 0, .bool true]) ∧ BytesIn w' (some ⟨g, 32, none⟩) (b.drop 32) ∧ W.heap.size ≤ g ∧ g < w'.heap.size ∧ Fr Nob W w') := by
      intro W hW
      refine (pgParse_any _ cp1 _ W (HB1.out.new hW) HCl.out).mono ?_
      rintro e w' ⟨g, rfl, k1, k2, k3, hf⟩
      refine ⟨g, ?_, k1, k2, k3, hf⟩
      rw [hn, htu, hok]; rfl
    clear hall hok hn htu HPg
    go_wp2_with fail
    refine HNo.out.mono ?_
    rintro e w2 ⟨rfl, hf2⟩
    have HF2 : Hid (Fr Nob w1 w2) := hf2
    clear hf2
    go_wp2_with fail
    refine (HPs.out w2 HF2.out).mono ?_
    rintro e w3 ⟨g3, rfl, hb3, hg3, hg3l, hf3⟩
    have HF3 : Hid (Fr Nob wa w3) := (HF1.out.trans HF2.out).trans hf3
    have HB3 : Hid (Blk w3 gr 37 #[.int .i64 0, .int .u64 0, .slice none 0 0]) := HBa.out.fr HF3.out (fun h => h)
    have HD3 := Lib.hid hb3
    have hgg : wa.heap.size ≤ g3 := Nat.le_trans HF1.out.size (Nat.le_trans HF2.out.size hg3)
    have hggr : gr < g3 := by have := HBa.out.lt; omega
    have hb := HB3.out
    have d0 := hb.cell 0
    have d1 := hb.cell 1
    have d2 := hb.cell 2
    have f0 := hb.frozen 0
    have f1 := hb.frozen 1
    have f2 := hb.frozen 2
    have hpg := hb.lt
    simp only [List.getElem?_toArray, List.getElem?_cons_zero, List.getElem?_cons_succ] at d0 d1 d2
    clear hb hf3 hb3 HPs
    obtain ⟨ls, hls⟩ : ∃ x, (pgX b).lsn = x := ⟨_, rfl⟩
    have HLs := Lib.hid hls
    rw [hls]
    clear hls
    go_wp2
    have hbE : Blk ((((w3.setCell ⟨gr, 0, none⟩ (.int .i64 no)).setCell ⟨gr, 1, none⟩ (.int .u64 ls)).setCell ⟨gr, 2, none⟩ (.slice (some ⟨g3, 32, none⟩) 480 480)).alloc (.cells #[.int .i64 no, .int .u64 ls, .slice (some ⟨g3, 32, none⟩) 480 480] 37)) gr 37 #[.int .i64 no, .int .u64 ls, .slice (some ⟨g3, 32, none⟩) 480 480] := (((HB3.out.set_ 0 _).set_ 1 _).set_ 2 _).alloc _
    have hfE0 : Fr (fun x => x = gr) w3 ((((w3.setCell ⟨gr, 0, none⟩ (.int .i64 no)).setCell ⟨gr, 1, none⟩ (.int .u64 ls)).setCell ⟨gr, 2, none⟩ (.slice (some ⟨g3, 32, none⟩) 480 480)).alloc (.cells #[.int .i64 no, .int .u64 ls, .slice (some ⟨g3, 32, none⟩) 480 480] 37)) :=
      (((((Fr.refl _ w3) : Fr (fun x => x = gr) w3 w3).setCell (p := ⟨gr, 0, none⟩) (.inr rfl) _).setCell (p := ⟨gr, 1, none⟩) (.inr rfl) _).setCell (p := ⟨gr, 2, none⟩) (.inr rfl) _).alloc _
    refine bodyPost_ret (results_cell_rowP rfl _ _ _ _ _ _ rfl hbE Tryd.underlying37 rfl page_size) rfl ⟨g3, 32, ?_, ?_, by have := HFr.out.size; omega, Nat.lt_of_lt_of_le hg3l hfE0.size, HFr.out.step (Fr.trans (HF3.out.mono (fun _ _ h => h.elim)) hfE0) (fun i hi h => by have := HGr.out; omega)⟩
    · rw [HX.out, HLs.out]; rfl
    · rw [HX.out]; exact HD3.out.fr hfE0 (fun a ha h => by injection ha with ha; subst ha; dsimp only at h; omega)
end Go.Proofs.YtilclfeaolhoeaaDoor
