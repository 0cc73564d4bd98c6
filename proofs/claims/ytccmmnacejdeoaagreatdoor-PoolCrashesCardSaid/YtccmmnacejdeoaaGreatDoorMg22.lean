/-
  PgOpen, PgRd, PgCalm, PgStill, in one text.
-/
import Derived.Test.YtccmmnacejdeoaaGreatDoorMg21
import Derived.Test.YtccmmnacejdeoaaGreatDoorMg20
/-
  Open: a file on a disk that lives through it, over any sectors that are.
-/
namespace Go.Proofs.YtccmmnacejdeoaaGreatDoor
set_option linter.unusedSimpArgs false
set_option linter.unusedVariables false
open Go.RowKit

/-- What Open does to the disk. -/
def openRun (S : DS) (at0 pages : Nat) (h : List UInt8) : DS × Int :=
  if lfRes S.now (at0 + 8 * pages) pages h = [] then (S, 0) else runs S (layOps at0 (lfRes S.now (at0 + 8 * pages) pages h) (lfRes S.now (at0 + 8 * pages) pages h).length ++ [.fl])
theorem lfWh_each {now : List (List UInt8)} {sp pages : Nat} {h : List UInt8} : ∀ k, lfWh now sp pages h k = true → ∀ i, i < k → i < lfN h → pgOk (lfB now sp i) = true ∧ pgTurn (lfB now sp i) = lfT h ∧ (pgX (lfB now sp i)).no < pages
  | 0, _, i, hi, _ => absurd hi (by omega)
  | k + 1, hk, i, hi, hn => by
    unfold lfWh at hk
    by_cases e : i = k
    · subst e
      rw [if_pos hn] at hk
      simp only [Bool.and_eq_true, decide_eq_true_eq] at hk
      exact ⟨hk.1.1.2, hk.1.2, hk.2⟩
    · split at hk
      · simp only [Bool.and_eq_true] at hk
        exact lfWh_each k hk.1.1.1 i (by omega) hn
      · exact lfWh_each k hk i (by omega) hn
theorem lfRes_ok {now : List (List UInt8)} {at0 pages : Nat} {h : List UInt8} (h64 : ∀ (j : Nat) s, now[j]? = some s → s.length = 64) (hat : at0 + 8 * pages + 80 ≤ now.length) (hp : pages ≤ 5000) :
    (lfRes now (at0 + 8 * pages) pages h).length ≤ 8 ∧ ∀ x ∈ lfRes now (at0 + 8 * pages) pages h, x.Ok ∧ x.no < pages := by
  unfold lfRes
  split
  · rename_i hw
    have h8 : lfN h ≤ 8 := by
      have := lfWh_w0 8 hw
      unfold lfW0 at this
      simp only [Bool.and_eq_true, decide_eq_true_eq] at this
      exact this.1
    refine ⟨by unfold lfL; rw [List.length_map, List.length_range]; exact h8, fun x hx => ?_⟩
    unfold lfL at hx
    obtain ⟨i, hi, rfl⟩ := List.mem_map.1 hx
    rw [List.mem_range] at hi
    obtain ⟨_, _, h3⟩ := lfWh_each 8 hw i (by omega) hi
    have hlb : (lfB now (at0 + 8 * pages) i).length = 512 := by unfold lfB; rw [secN_length h64 _ 8 (by omega)]
    exact ⟨⟨by omega, getN_le _ (by rw [List.length_take]; omega), by show ((lfB now (at0 + 8 * pages) i).drop 32).length = 480; rw [List.length_drop, hlb]⟩, h3⟩
  · exact ⟨by simp, fun x hx => by simp at hx⟩

set_option maxHeartbeats 3200000 in
set_option maxRecDepth 100000 in
theorem Open_run {R : Nat → Prop} {w : World} {d : Nat} {S : DS} {hb : List UInt8} (at0 pages : Nat) (hd : DiskOk R w d S) (hl : S.dead = false) (h1 : 1 ≤ pages) (h2 : pages ≤ 4096) (hat : at0 + 8 * pages + 80 ≤ S.now.length) (hh : S.now[at0 + 8 * pages]? = some hb) (hwl : S.waits.length ≤ 900000)
    (hc : (openRun S at0 pages hb).2 = 0) (hdd : (openRun S at0 pages hb).1.dead = false) (hps : PSound (openRun S at0 pages hb).1.now at0 pages) (hat2 : at0 ≤ 60000) :
    Calls Tryz.prog 18 #[.pointer (some ⟨d, 0, none⟩), .int .i64 at0, .int .i64 pages] w fun e w' => ∃ p R', e = .returned (.tuple #[.pointer (some ⟨p, 0, none⟩), .int .i64 0]) ∧ w.heap.size ≤ p ∧ p < w'.heap.size ∧ FileAt w' p d at0 pages (lfTurn S.now (at0 + 8 * pages) 0 hb 8) ∧ DiskOk R' w' d (openRun S at0 pages hb).1 ∧ ¬ R' p ∧ (∀ b, R' b → R b ∨ w.heap.size ≤ b) ∧ FrD R w w' := by
  have HSec := Lib.hid (Sectors_any hd)
  have HNeed := Lib.hid (Need_any pages w (by omega) h1)
  have HD := Lib.hid hd
  have HDead := Lib.hid hl
  have HRes := Lib.hid (lfRes_ok (h := hb) (fun j s hs => hd.len64 (i := j) hs) hat (by omega : pages ≤ 5000))
  have HRlt : Hid (∀ b, R b → b < w.heap.size) := fun b hb => hd.lt hb
  have hsm := hd.small
  obtain ⟨n, hn⟩ : ∃ n, S.now.length = n := ⟨_, rfl⟩
  have HH := Lib.hid hh
  rw [hn] at HSec hat hsm
  have HNl := Lib.hid hn
  have HC := Lib.hid hc
  have HDd := Lib.hid hdd
  have HPs := Lib.hid hps
  obtain ⟨nd, hnd⟩ : ∃ m, 8 * pages + 80 = m := ⟨_, rfl⟩
  rw [hnd] at HNeed
  have u1 : IntKind.i64.wrap ((n : Int) - (nd : Int)) = (n : Int) - (nd : Int) := by rw [IntKind.wrap_i64]; omega
  have t1 : ¬ (pages : Int) < 1 := by omega
  have t2 : ¬ (pages : Int) > 4096 := by omega
  have t3 : ¬ (at0 : Int) < 0 := by omega
  have t4 : ¬ (at0 : Int) > (n : Int) - (nd : Int) := by omega
  have t5 : ¬ (4096 : Int) < (pages : Int) := by omega
  have t6 : ¬ (n : Int) - (nd : Int) < (at0 : Int) := by omega
  clear hd hl hn hh hc hdd hps hnd
  go_enter Tryz.func18, Tryz.ntmps18
  go_wp2_with fail
  refine HSec.out.mono ?_
  rintro e w1 ⟨rfl, rfl⟩
  go_wp2_with fail
  refine HNeed.out.mono ?_
  rintro e w1 ⟨rfl, rfl⟩
  obtain ⟨p, hp⟩ : ∃ p, w.heap.size = p := ⟨_, rfl⟩
  have HP := Lib.hid hp
  have hfa : FileAt (w.alloc (.cells #[.pointer (some ⟨d, 0, none⟩), .int .i64 at0, .int .i64 pages, .int .u64 0] 89)) p d at0 pages 0 := by rw [← hp]; exact Blk.new _ _ _
  have hfw : Fr Nob w (w.alloc (.cells #[.pointer (some ⟨d, 0, none⟩), .int .i64 at0, .int .i64 pages, .int .u64 0] 89)) := (Fr.refl _ w).alloc _
  obtain ⟨wa, hwa⟩ : ∃ W, w.alloc (.cells #[.pointer (some ⟨d, 0, none⟩), .int .i64 at0, .int .i64 pages, .int .u64 0] 89) = W := ⟨_, rfl⟩
  rw [hwa] at hfa hfw
  have hRp : ¬ R p := fun h => by have := HRlt.out p h; omega
  have HLf := Lib.hid (left_any hfa hRp (HD.out.new hfw) HDead.out (by rw [HNl.out]; omega) HH.out (by omega) (by omega))
  have HFw := Lib.hid hfw
  have hpwa : p < wa.heap.size := hfa.lt
  clear hfa hfw
  go_wp2_with fail
  refine HLf.out.mono ?_
  rintro e w2 ⟨A, c, l, rfl, hml, hpg, hf2, hfr2⟩
  clear hp hwa
  have hll : l.length = (lfRes S.now (at0 + 8 * pages) pages hb).length := by rw [← hml, List.length_map]
  have HD2 : Hid (DiskOk R w2 d S) := (HD.out.new HFw.out).fr hfr2 (fun b hb e => hRp (e ▸ hb))
  have HF2 := Lib.hid hf2
  have HFr2 : Hid (Fr Nob w w2) := by
    refine HFw.out.step hfr2 (fun i hi h => ?_)
    have := HP.out; omega
  have HMl := Lib.hid hml
  have hsz2 := hfr2.size
  have hpl2 : p < w2.heap.size := by omega
  have HPg : Hid (PgsIn R w2 A l) := hpg.less (fun b hbl hRb => by have := HRlt.out b hRb; have := HFw.out.size; omega)
  obtain ⟨m, hm⟩ : ∃ m, l.length = m := ⟨_, rfl⟩
  have HM := Lib.hid hm
  rw [hm] at hll ⊢
  clear hml hpg hf2 hfr2 hm HLf
  by_cases h0 : m = 0
  · have HOr : Hid (openRun S at0 pages hb = (S, 0)) := by
      show _ = _
      unfold openRun
      rw [if_pos (List.eq_nil_of_length_eq_zero (by omega))]
    rw [HOr.out] at HPs HDd
    have HSd := Lib.hid (sound_any HF2.out HD2.out HDead.out HPs.out)
    have g1 : ¬ (m : Int) > 0 := by omega
    have g2 : ¬ (0 : Int) < (m : Int) := by omega
    clear hll HC
    subst h0
    go_wp2_with fail
    refine HSd.out.mono ?_
    rintro e w3 ⟨rfl, hf3⟩
    have HF3 := Lib.hid hf3
    clear hf3
    go_wp2
    go_ret2
    rw [HOr.out]
    exact ⟨p, R, rfl, by rw [HP.out]; exact Nat.le_refl _, Nat.lt_of_lt_of_le hpl2 HF3.out.size, HF2.out.fr HF3.out (fun h => h), HD2.out.new HF3.out, hRp, fun b hb => .inl hb, (HFr2.out.trans HF3.out).mono (fun _ _ h => h.elim)⟩
  · have hne : lfRes S.now (at0 + 8 * pages) pages hb ≠ [] := fun h => by rw [h] at hll; exact h0 hll
    have HOr : Hid (openRun S at0 pages hb = runs S (layOps at0 (l.map (·.1)) m ++ [.fl])) := by
      show _ = _
      unfold openRun
      rw [if_neg hne, HMl.out, hll]
    rw [HOr.out] at HPs HDd HC
    have HLy := Lib.hid (lay_run A c l HF2.out hRp HD2.out HPg.out (fun x hx => HRes.out.2 x.1 (by rw [← HMl.out]; exact List.mem_map_of_mem hx)) (by rw [HM.out, hll]; exact HRes.out.1) (by rw [HNl.out]; omega) hat2 (by omega) hwl)
    rw [HM.out] at HLy
    have g1 : (m : Int) > 0 := by omega
    have g2 : (0 : Int) < (m : Int) := by omega
    clear hll hne
    go_wp2_with fail
    refine HLy.out.mono ?_
    rintro e w3 ⟨rfl, hd3, hf3⟩
    rw [HC.out]
    have hEp : ¬ Ext R w2 w3 p := fun h => by rcases h with h | h; exact hRp h; omega
    have HF3 : Hid (FileAt w3 p d at0 pages _) := HF2.out.fr hf3.fr (fun h => hRp h)
    have HSd := Lib.hid (sound_any HF3.out hd3 HDd.out HPs.out)
    have HD3 := Lib.hid hd3
    have HFr3 := Lib.hid hf3
    have hsz3 : w2.heap.size ≤ w3.heap.size := hf3.size
    clear hd3 hf3 HLy
    go_wp2_with fail
    refine HSd.out.mono ?_
    rintro e w4 ⟨rfl, hf4⟩
    have HF4 := Lib.hid hf4
    clear hf4
    go_wp2
    go_ret2
    rw [HOr.out]
    refine ⟨p, Ext R w2 w3, rfl, by rw [HP.out]; exact Nat.le_refl _, Nat.lt_of_lt_of_le (by omega) HF4.out.size, HF3.out.fr HF4.out (fun h => h), HD3.out.new HF4.out, hEp, fun b hb => ?_, ?_⟩
    · rcases hb with hb | hb
      · exact .inl hb
      · exact .inr (by have := HFr2.out.size; omega)
    · have h23 : FrD R w w3 := FrD.step (HFr2.out.mono (F := Nob) (G := Nob) (fun _ _ h => h)) (fun i h => h.elim) HFr3.out (fun i hi h => h)
      exact FrD.step' h23 HF4.out (fun i hi h => h.elim)
end Go.Proofs.YtccmmnacejdeoaaGreatDoor

/-
  Read: a page of a file that is sound.
-/
namespace Go.Proofs.YtccmmnacejdeoaaGreatDoor
set_option linter.unusedSimpArgs false
set_option linter.unusedVariables false
open Go.RowKit

/-- The page that stands at a place. -/
def pgAt (now : List (List UInt8)) (at0 no : Nat) : PgV :=
  if (secN now (at0 + 8 * no) 8).all (· == 0) = true then ⟨no, 0, zeros 480⟩ else pgX (secN now (at0 + 8 * no) 8)
theorem results_cell_rowP {P : Program} {fn : Func} {p u : Tmp} {ty : TypeId} (h : fn.results = #[.cell p ty, .tmp u]) (tmps : Array Value) (w : World) (g : Nat) (t : TypeId) (cs : Array Value) (d : TypeDesc)
    (hp : tmps.getD p undef = .pointer (some ⟨g, 0, none⟩)) (hg : Blk w g t cs)
    (hu : P.underlying ty = some d) (hd : (match d with | .struct _ | .array _ _ => true | _ => false) = true) (hi : (P.info? ty).map (·.size) = some cs.size) :
    (results fn tmps).run P w = .ok (.tuple #[.agg cs, tmps.getD u undef]) w := by
  have hp' : tmps[p]?.getD undef = .pointer (some ⟨g, 0, none⟩) := by simpa using hp
  simp [results, h, hp', asAddr, run_loadVar_row w g t ty cs (0, 0) d hg hu hd hi, Sem.run_bind, Result.andThen]
theorem make480 (w : World) : (Instr.makeSlice 38 (.int .i64 480) (.int .i64 480)).run Tryz.prog w = .ok (.slice (some ⟨w.heap.size, 0, none⟩) 480 480) (w.alloc (.cells (zeroCells 480) 5)) :=
  run_make_row' (P := Tryz.prog) 38 5 (.int .u8 0) 1 Tryz.underlying38 info_u8z rfl .i64 .i64 480 (by omega) (by omega) w

set_option maxHeartbeats 3200000 in
set_option maxRecDepth 100000 in
theorem pgRead_any {R : Nat → Prop} {w : World} {p d at0 pages turn : Nat} {S : DS} (no : Nat) (h : FileAt w p d at0 pages turn) (hd : DiskOk R w d S) (hl : S.dead = false) (hp : PSound S.now at0 pages) (hno : no < pages) :
    Calls Tryz.prog 15 #[.pointer (some ⟨p, 0, none⟩), .int .i64 no] w fun e w' => ∃ g o, e = .returned (.tuple #[.agg #[.int .i64 no, .int .u64 (pgAt S.now at0 no).lsn, .slice (some ⟨g, o, none⟩) 480 480], .int .i64 0]) ∧ BytesIn w' (some ⟨g, o, none⟩) (pgAt S.now at0 no).d ∧ w.heap.size ≤ g ∧ g < w'.heap.size ∧ Fr Nob w w' := by
  have hmk := make480
  have hsm := hd.small
  have hln := hp.len
  have HCl := Lib.hid (hp.l512 no hno)
  have HPg := Lib.hid (hp.page no hno)
  obtain ⟨gr, hgr⟩ : ∃ g, w.heap.size = g := ⟨_, rfl⟩
  have HGr := Lib.hid hgr
  have hp0 := h.lt
  have hfa : FileAt (w.alloc (.cells #[.int .i64 0, .int .u64 0, .slice none 0 0] 40)) p d at0 pages turn := h.alloc _
  have hba : Blk (w.alloc (.cells #[.int .i64 0, .int .u64 0, .slice none 0 0] 40)) gr 40 #[.int .i64 0, .int .u64 0, .slice none 0 0] := by rw [← hgr]; exact Blk.new _ _ _
  have hfr : Fr Nob w (w.alloc (.cells #[.int .i64 0, .int .u64 0, .slice none 0 0] 40)) := (Fr.refl _ w).alloc _
  obtain ⟨wa, hwa⟩ : ∃ W, w.alloc (.cells #[.int .i64 0, .int .u64 0, .slice none 0 0] 40) = W := ⟨_, rfl⟩
  rw [hwa] at hfa hba hfr
  have HFa := Lib.hid hfa
  have HBa := Lib.hid hba
  have HFr := Lib.hid hfr
  have HRd := Lib.hid (pgRead8_any (at0 + 8 * no) hfa (hd.new hfr) hl (by omega) (by omega))
  have HAt : Hid (pgAt S.now at0 no = if (secN S.now (at0 + 8 * no) 8).all (· == 0) = true then ⟨no, 0, zeros 480⟩ else pgX (secN S.now (at0 + 8 * no) 8)) := rfl
  have c1 := Blk.cell hfa 1
  have c2 := Blk.cell hfa 2
  have lp := Blk.lt hfa
  simp only [List.getElem?_toArray, List.getElem?_cons_zero, List.getElem?_cons_succ] at c1 c2
  obtain ⟨b, hb⟩ : ∃ b, secN S.now (at0 + 8 * no) 8 = b := ⟨_, rfl⟩
  rw [hb] at HRd HCl HPg HAt
  rw [show ((at0 + 8 * no : Nat) : Int) = (at0 : Int) + 8 * (no : Int) from by omega] at HRd
  have u1 : IntKind.i64.wrap (8 * (no : Int)) = 8 * (no : Int) := by rw [IntKind.wrap_i64]; omega
  have u2 : IntKind.i64.wrap ((at0 : Int) + 8 * (no : Int)) = (at0 : Int) + 8 * (no : Int) := by rw [IntKind.wrap_i64]; omega
  have t1 : ¬ (no : Int) < 0 := by omega
  have t2 : ¬ (no : Int) ≥ (pages : Int) := by omega
  have t3 : ¬ (pages : Int) ≤ (no : Int) := by omega
  obtain ⟨xa, hxa⟩ : ∃ x, pgAt S.now at0 no = x := ⟨_, rfl⟩
  rw [hxa] at HAt ⊢
  clear h hd hl hp hfa hba hfr hb hln hxa
  go_enter Tryz.func15, Tryz.ntmps15
  go_wp2_with fail
  refine HRd.out.mono ?_
  rintro e w1 ⟨g1, cp1, rfl, hb1, hg1, hf1⟩
  have HB1 := Lib.hid hb1
  have HF1 := Lib.hid hf1
  have HNo := Lib.hid (none_any _ cp1 _ w1 hb1 HCl.out)
  clear hb1 hf1 HRd hwa hgr c1 c2
  rcases HPg.out with hall | ⟨hall, hok, hn, htu⟩
  · have HNo : Hid (Calls Tryz.prog 34 #[.slice (some ⟨g1, 0, none⟩) 512 cp1] w1 fun e w' => e = .returned (.bool true) ∧ Fr Nob w1 w') := by
      have := HNo.out
      rw [hall] at this
      exact this
    have HX : Hid (xa = ⟨no, 0, zeros 480⟩) := by show _ = _; rw [HAt.out, if_pos hall]
    clear hall HPg
    go_wp2_with fail
    refine HNo.out.mono ?_
    rintro e w2 ⟨rfl, hf2⟩
    have HF2 : Hid (Fr Nob wa w2) := HF1.out.trans hf2
    have HB2 : Hid (Blk w2 gr 40 #[.int .i64 0, .int .u64 0, .slice none 0 0]) := HBa.out.fr HF2.out (fun h => h)
    have hb := HB2.out
    have d0 := hb.cell 0
    have d1 := hb.cell 1
    have d2 := hb.cell 2
    have f0 := hb.frozen 0
    have f1 := hb.frozen 1
    have f2 := hb.frozen 2
    have hpg := hb.lt
    simp only [List.getElem?_toArray, List.getElem?_cons_zero, List.getElem?_cons_succ] at d0 d1 d2
    clear hb hf2
    go_wp2
    have hz : w2.heap.size = (((w2.setCell ⟨gr, 0, none⟩ (.int .i64 no)).setCell ⟨gr, 1, none⟩ (.int .u64 0)).setCell ⟨gr, 2, none⟩ (.slice (some ⟨w2.heap.size, 0, none⟩) 480 480)).heap.size := by simp [World.setCell]
    have hbE : Blk ((((w2.setCell ⟨gr, 0, none⟩ (.int .i64 no)).setCell ⟨gr, 1, none⟩ (.int .u64 0)).setCell ⟨gr, 2, none⟩ (.slice (some ⟨w2.heap.size, 0, none⟩) 480 480)).alloc (.cells (zeroCells 480) 5)) gr 40 #[.int .i64 no, .int .u64 0, .slice (some ⟨w2.heap.size, 0, none⟩) 480 480] := (((HB2.out.set_ 0 _).set_ 1 _).set_ 2 _).alloc _
    have hbN : Blk ((((w2.setCell ⟨gr, 0, none⟩ (.int .i64 no)).setCell ⟨gr, 1, none⟩ (.int .u64 0)).setCell ⟨gr, 2, none⟩ (.slice (some ⟨w2.heap.size, 0, none⟩) 480 480)).alloc (.cells (zeroCells 480) 5)) w2.heap.size 5 (zeroCells 480) := by
      have := Blk.new (((w2.setCell ⟨gr, 0, none⟩ (.int .i64 no)).setCell ⟨gr, 1, none⟩ (.int .u64 0)).setCell ⟨gr, 2, none⟩ (.slice (some ⟨w2.heap.size, 0, none⟩) 480 480)) 5 (zeroCells 480)
      rwa [← hz] at this
    have hfE : Fr (fun x => x = gr) wa ((((w2.setCell ⟨gr, 0, none⟩ (.int .i64 no)).setCell ⟨gr, 1, none⟩ (.int .u64 0)).setCell ⟨gr, 2, none⟩ (.slice (some ⟨w2.heap.size, 0, none⟩) 480 480)).alloc (.cells (zeroCells 480) 5)) :=
      ((((HF2.out.mono (fun _ _ h => h.elim) : Fr (fun x => x = gr) wa w2).setCell (p := ⟨gr, 0, none⟩) (.inr rfl) _).setCell (p := ⟨gr, 1, none⟩) (.inr rfl) _).setCell (p := ⟨gr, 2, none⟩) (.inr rfl) _).alloc _
    refine bodyPost_ret (results_cell_rowP rfl _ _ _ _ _ _ rfl hbE Tryz.underlying40 rfl page_size) rfl ⟨w2.heap.size, 0, ?_, ?_, by have := HGr.out; have := HFr.out.size; have := HF2.out.size; omega, hbN.lt, HFr.out.step hfE (fun i hi h => by have := HGr.out; omega)⟩
    · rw [HX.out]; rfl
    · rw [HX.out]; exact bytesIn_of (by rw [← zeroCells_eq]; exact hbN)
  · have HNo : Hid (Calls Tryz.prog 34 #[.slice (some ⟨g1, 0, none⟩) 512 cp1] w1 fun e w' => e = .returned (.bool false) ∧ Fr Nob w1 w') := by
      have := HNo.out
      rw [hall] at this
      exact this
    have HX : Hid (xa = pgX b) := by show _ = _; rw [HAt.out, if_neg (by rw [hall]; decide)]
    have HPs : Hid (∀ W, Fr Nob w1 W → Calls Tryz.prog 35 #[.slice (some ⟨g1, 0, none⟩) 512 cp1] W fun e w' => ∃ g, e = .returned (.tuple #[.agg #[.int .i64 no, .int .u64 (pgX b).lsn, .slice (some ⟨g, 32, none⟩) 480 480], .int .u64 0, .bool true]) ∧ BytesIn w' (some ⟨g, 32, none⟩) (b.drop 32) ∧ W.heap.size ≤ g ∧ g < w'.heap.size ∧ Fr Nob W w') := by
      intro W hW
      refine (pgParse_any _ cp1 _ W (HB1.out.new hW) HCl.out).mono ?_
      rintro e w' ⟨g, rfl, k1, k2, k3, hf⟩
      refine ⟨g, ?_, k1, k2, k3, hf⟩
      rw [hn, htu, hok]; rfl
    clear hall hok hn htu HPg
    go_wp2_with fail
    refine HNo.out.mono ?_
    rintro e w2 ⟨rfl, hf2⟩
    have HF2 : Hid (Fr Nob w1 w2) := hf2
    clear hf2
    go_wp2_with fail
    refine (HPs.out w2 HF2.out).mono ?_
    rintro e w3 ⟨g3, rfl, hb3, hg3, hg3l, hf3⟩
    have HF3 : Hid (Fr Nob wa w3) := (HF1.out.trans HF2.out).trans hf3
    have HB3 : Hid (Blk w3 gr 40 #[.int .i64 0, .int .u64 0, .slice none 0 0]) := HBa.out.fr HF3.out (fun h => h)
    have HD3 := Lib.hid hb3
    have hgg : wa.heap.size ≤ g3 := Nat.le_trans HF1.out.size (Nat.le_trans HF2.out.size hg3)
    have hggr : gr < g3 := by have := HBa.out.lt; omega
    have hb := HB3.out
    have d0 := hb.cell 0
    have d1 := hb.cell 1
    have d2 := hb.cell 2
    have f0 := hb.frozen 0
    have f1 := hb.frozen 1
    have f2 := hb.frozen 2
    have hpg := hb.lt
    simp only [List.getElem?_toArray, List.getElem?_cons_zero, List.getElem?_cons_succ] at d0 d1 d2
    clear hb hf3 hb3 HPs
    obtain ⟨ls, hls⟩ : ∃ x, (pgX b).lsn = x := ⟨_, rfl⟩
    have HLs := Lib.hid hls
    rw [hls]
    clear hls
    go_wp2
    have hbE : Blk ((((w3.setCell ⟨gr, 0, none⟩ (.int .i64 no)).setCell ⟨gr, 1, none⟩ (.int .u64 ls)).setCell ⟨gr, 2, none⟩ (.slice (some ⟨g3, 32, none⟩) 480 480)).alloc (.cells #[.int .i64 no, .int .u64 ls, .slice (some ⟨g3, 32, none⟩) 480 480] 40)) gr 40 #[.int .i64 no, .int .u64 ls, .slice (some ⟨g3, 32, none⟩) 480 480] := (((HB3.out.set_ 0 _).set_ 1 _).set_ 2 _).alloc _
    have hfE0 : Fr (fun x => x = gr) w3 ((((w3.setCell ⟨gr, 0, none⟩ (.int .i64 no)).setCell ⟨gr, 1, none⟩ (.int .u64 ls)).setCell ⟨gr, 2, none⟩ (.slice (some ⟨g3, 32, none⟩) 480 480)).alloc (.cells #[.int .i64 no, .int .u64 ls, .slice (some ⟨g3, 32, none⟩) 480 480] 40)) :=
      (((((Fr.refl _ w3) : Fr (fun x => x = gr) w3 w3).setCell (p := ⟨gr, 0, none⟩) (.inr rfl) _).setCell (p := ⟨gr, 1, none⟩) (.inr rfl) _).setCell (p := ⟨gr, 2, none⟩) (.inr rfl) _).alloc _
    refine bodyPost_ret (results_cell_rowP rfl _ _ _ _ _ _ rfl hbE Tryz.underlying40 rfl page_size) rfl ⟨g3, 32, ?_, ?_, by have := HFr.out.size; omega, Nat.lt_of_lt_of_le hg3l hfE0.size, HFr.out.step (Fr.trans (HF3.out.mono (fun _ _ h => h.elim)) hfE0) (fun i hi h => by have := HGr.out; omega)⟩
    · rw [HX.out, HLs.out]; rfl
    · rw [HX.out]; exact HD3.out.fr hfE0 (fun a ha h => by injection ha with ha; subst ha; dsimp only at h; omega)
end Go.Proofs.YtccmmnacejdeoaaGreatDoor

/-
  Runs on a disk that nothing threatens; a file that is opened as it was left (plain).
-/
namespace Go.Proofs.YtccmmnacejdeoaaGreatDoor
set_option linter.unusedSimpArgs false
set_option linter.unusedVariables false
open Go.RowKit

/-- What is read behind writes and flushes. -/
def nowOps : List (List UInt8) → List WOp → List (List UInt8)
  | now, [] => now
  | now, .wr i s :: l => nowOps (now.set i s) l
  | now, .fl :: l => nowOps now l
theorem nowOps_append (a b : List WOp) : ∀ now, nowOps now (a ++ b) = nowOps (nowOps now a) b := by
  induction a with
  | nil => intro now; rfl
  | cons o l ih => intro now; cases o <;> exact ih _
theorem Calm.fl {S : DS} (h : Calm S) : Calm S.flush ∧ S.flush.now = S.now ∧ S.flush.waits = [] := by
  have e : S.flushed = S.flush := by unfold DS.flushed; rw [if_neg (by rw [h.dead]; decide)]
  have := h.flushed
  rw [e] at this
  have e2 := h.flushed_eq
  rw [e] at e2
  exact ⟨this, by rw [e2], by rw [e2]⟩
theorem runs_calm (l : List WOp) : ∀ {S : DS}, Calm S → (runs S l).2 = 0 ∧ Calm (runs S l).1 ∧ (runs S l).1.now = nowOps S.now l := by
  induction l with
  | nil => intro S h; exact ⟨rfl, h, rfl⟩
  | cons o l ih =>
    intro S h
    have e : runs S (o :: l) = runs (o.next S) l := by conv => lhs; unfold runs; rw [if_neg (by rw [h.dead]; decide)]
    rw [e]
    cases o with
    | wr i s =>
      have := ih (h.wr i s)
      rw [h.wr_now] at this
      exact this
    | fl =>
      have := ih h.fl.1
      rw [h.fl.2.1] at this
      exact this
theorem runs_fl {S : DS} (h : Calm S) (l : List WOp) : (runs S (l ++ [.fl])).1.waits = [] := by
  have hc := runs_calm l h
  rw [runs_snoc hc.1, if_neg (by rw [hc.2.1.dead]; decide)]
  exact hc.2.1.fl.2.2
theorem nowOps_sec (i : Nat) (b : List UInt8) (now : List (List UInt8)) : ∀ k, nowOps now (secOps i b k) = wrNow now i b k
  | 0 => rfl
  | k + 1 => by rw [secOps, nowOps_append, nowOps_sec i b now k]; rfl
theorem nowOps_lay (at0 : Nat) (l : List PgV) (now : List (List UInt8)) : ∀ k, nowOps now (layOps at0 l k) = layNow now at0 l k
  | 0 => rfl
  | k + 1 => by
    cases hx : l[k]? with
    | some x =>
      rw [layOps_some hx, nowOps_append, nowOps_lay at0 l now k, nowOps_sec]
      conv => rhs; unfold layNow
      rw [hx]
    | none =>
      rw [layOps_none hx, nowOps_lay at0 l now k]
      conv => rhs; unfold layNow
      rw [hx]
theorem nowOps_plc (sp t : Nat) (l : List PgV) (now : List (List UInt8)) : ∀ k, nowOps now (plcOps sp t l k) = plcNow now sp t l k
  | 0 => rfl
  | k + 1 => by
    cases hx : l[k]? with
    | some x =>
      rw [plcOps_some hx, nowOps_append, nowOps_plc sp t l now k, nowOps_sec]
      conv => rhs; unfold plcNow
      rw [hx]
    | none =>
      rw [plcOps_none hx, nowOps_plc sp t l now k]
      conv => rhs; unfold plcNow
      rw [hx]
theorem nowOps_write (at0 pages t : Nat) (l : List PgV) (now : List (List UInt8)) : nowOps now (writeOps at0 pages t l) = wrote now at0 pages t l := by
  unfold writeOps wrote
  rw [nowOps_append, nowOps_append, nowOps_append, nowOps_append, nowOps_plc, nowOps_sec, nowOps_lay]; rfl

theorem lfW0_zeros : lfW0 (zeros 64) = false := by
  unfold lfW0
  rw [Bool.and_eq_false_iff]
  right
  rw [beq_eq_false_iff_ne]
  intro e
  have := congrArg (fun l => l[0]?) e
  simp only [lot_first] at this
  cases this
theorem lfTurn_le {now : List (List UInt8)} {sp T : Nat} {h : List UInt8} (h0 : (if lfW0 h = true then lfT h else 0) = T) (hp : ∀ j, j < 8 → pgOk (lfB now sp j) = true → pgTurn (lfB now sp j) ≤ T) : ∀ k, k ≤ 8 → lfTurn now sp 0 h k = T
  | 0, _ => h0
  | k + 1, hk => by
    conv => lhs; unfold lfTurn
    rw [lfTurn_le h0 hp k (by omega)]
    split
    · rename_i hok
      have := hp k (by omega) hok
      omega
    · rfl
theorem PSt.left {now : List (List UInt8)} {at0 pages T : Nat} {lot : List PgV} {cur : Nat → Option PgV} (h : PSt now at0 pages T lot cur) : ∃ hb, now[at0 + 8 * pages]? = some hb ∧ lfRes now (at0 + 8 * pages) pages hb = lot ∧ lfTurn now (at0 + 8 * pages) 0 hb 8 = T := by
  refine ⟨_, h.head, ?_⟩
  have hT := h.Tlt
  have hpl : ∀ j, j < 8 → pgOk (lfB now (at0 + 8 * pages) j) = true → pgTurn (lfB now (at0 + 8 * pages) j) ≤ T := by
    intro j hj hok
    obtain ⟨q, q1, q2, _⟩ := h.place j hj
    unfold lfB at hok ⊢
    rw [q1] at hok ⊢
    cases q with
    | none => rw [show plcB none = zeros 512 from rfl, zeros_notok] at hok; cases hok
    | some x =>
      obtain ⟨k1, k2⟩ := q2 x rfl
      rw [show plcB (some x) = imgB x.1 x.2 from rfl, img_turn x.1 x.2 k1.d (by omega)]
      exact k2
  by_cases hl : lot = []
  · subst hl
    rw [if_pos rfl]
    refine ⟨?_, lfTurn_le (by rw [if_neg (by rw [lfW0_zeros]; decide)]; exact (h.T0 rfl).symm) hpl 8 (Nat.le_refl _)⟩
    unfold lfRes
    rw [if_neg (fun hw => by have := lfWh_w0 8 hw; rw [lfW0_zeros] at this; cases this)]
  · rw [if_neg hl]
    have h8 := h.l8
    have e1 : lfT (lotB T lot.length) = T := lot_turn T lot.length (by omega)
    have e2 : lfN (lotB T lot.length) = lot.length := lot_n T lot.length (by omega)
    have e3 : lfW0 (lotB T lot.length) = true := by unfold lfW0; rw [e1, e2, decide_eq_true h8]; simp
    have hat : ∀ j x, lot[j]? = some x → lfB now (at0 + 8 * pages) j = imgB x T := by
      intro j x hx
      have hj : j < lot.length := (List.getElem?_eq_some_iff.1 hx).1
      obtain ⟨q, q1, _, q3⟩ := h.place j (by omega)
      unfold lfB
      rw [q1, q3 x hx]; rfl
    have hwh : ∀ k, k ≤ 8 → lfWh now (at0 + 8 * pages) pages (lotB T lot.length) k = true := by
      intro k
      induction k with
      | zero => intro _; exact e3
      | succ k ih =>
        intro hk
        unfold lfWh
        rw [e2, ih (by omega)]
        split
        · rename_i hkl
          have hx := List.getElem?_eq_getElem hkl
          obtain ⟨x1, x2, _⟩ := h.lok _ (List.mem_of_getElem? hx)
          rw [hat k _ hx, img_ok _ _ x1 (by omega), img_turn _ _ x1.d (by omega), img_x _ _ x1, e1]
          simp [x2]
        · rfl
    refine ⟨?_, lfTurn_le (by rw [if_pos e3, e1]) hpl 8 (Nat.le_refl _)⟩
    unfold lfRes
    rw [if_pos (hwh 8 (Nat.le_refl _)), e2]
    refine List.ext_getElem? (fun j => ?_)
    unfold lfL
    rw [List.getElem?_map]
    by_cases hj : j < lot.length
    · rw [List.getElem?_range hj, List.getElem?_eq_getElem hj, Option.map_some, hat j _ (List.getElem?_eq_getElem hj), img_x _ _ (h.lok _ (List.getElem_mem hj)).1]
    · rw [List.getElem?_eq_none (by rw [List.length_range]; omega), List.getElem?_eq_none (by omega)]; rfl
/-- A calm disk on which nothing waits. -/
structure Still (S : DS) : Prop where
  calm : Calm S
  waits : S.waits = []
theorem Still.runs {S : DS} (h : Still S) (l : List WOp) : (runs S (l ++ [.fl])).2 = 0 ∧ Still (runs S (l ++ [.fl])).1 ∧ (runs S (l ++ [.fl])).1.now = nowOps S.now l := by
  obtain ⟨a, b, c⟩ := runs_calm (l ++ [.fl]) h.calm
  exact ⟨a, ⟨b, runs_fl h.calm l⟩, by rw [c, nowOps_append]; rfl⟩
theorem Still.openRun {S : DS} (h : Still S) (at0 pages : Nat) (hb : List UInt8) : (openRun S at0 pages hb).2 = 0 ∧ Still (openRun S at0 pages hb).1 ∧ (openRun S at0 pages hb).1.now = layNow S.now at0 (lfRes S.now (at0 + 8 * pages) pages hb) (lfRes S.now (at0 + 8 * pages) pages hb).length := by
  unfold Proofs.YtccmmnacejdeoaaGreatDoor.openRun
  split
  · rename_i he
    rw [he]
    exact ⟨rfl, h, rfl⟩
  · have := h.runs (layOps at0 (lfRes S.now (at0 + 8 * pages) pages hb) (lfRes S.now (at0 + 8 * pages) pages hb).length)
    rw [nowOps_lay] at this
    exact this
theorem Still.crash {S : DS} (h : Still S) (keep : List Int) : S.crash keep = S := h.calm.crash h.waits keep
theorem Still.set {S : DS} (h : Still S) : S.set (-1) = S := by
  have h1 := h.calm.fuse
  have h2 := h.calm.dead
  unfold DS.set
  cases S
  simp_all
theorem Still.new (n : Nat) : Still (DS.new n) := ⟨Calm.new n, rfl⟩
end Go.Proofs.YtccmmnacejdeoaaGreatDoor

/-
  A Write on a still disk; the page that stands at a place.
-/
namespace Go.Proofs.YtccmmnacejdeoaaGreatDoor
set_option linter.unusedSimpArgs false
set_option linter.unusedVariables false
open Go.RowKit

theorem wrote_length (now : List (List UInt8)) (at0 pages t : Nat) (l : List PgV) : (wrote now at0 pages t l).length = now.length := by
  unfold wrote
  rw [layNow_length, wrNow_length, plcNow_length]
/-- A Write on a still disk. -/
theorem write_now {R : Nat → Prop} {w : World} {p d at0 pages T : Nat} {S : DS} {lot : List PgV} {cur : Nat → Option PgV} (A : Option Addr) (c : Nat) (l : List (PgV × Value)) (h : FileAt w p d at0 pages T) (hp : ¬ R p) (hd : DiskOk R w d S) (hst : Still S) (hps : PSt S.now at0 pages T lot cur) (hl : PgsIn (fun b => R b ∨ b = p) w A l) (hok : ∀ x ∈ l, x.1.Ok ∧ x.1.no < pages) (hn0 : 0 < l.length) (hn : l.length ≤ 8)
    (hdis : ∀ (i j : Nat) x y, l[i]? = some x → l[j]? = some y → x.1.no = y.1.no → i = j) (hat2 : at0 ≤ 60000) (hpg : pages ≤ 5000) (hT : T + 1 < 4611686018427387904) :
    Calls Tryz.prog 51 #[.pointer (some ⟨p, 0, none⟩), .slice A l.length c] w fun e w' => ∃ S', e = .returned (.int .i64 0) ∧ S'.now = wrote S.now at0 pages (T + 1) (l.map (·.1)) ∧ DiskOk (Ext R w w') w' d S' ∧ Still S' ∧ PSt S'.now at0 pages (T + 1) (l.map (·.1)) (curW cur (l.map (·.1)) l.length) ∧ FileAt w' p d at0 pages (T + 1) ∧ Fr (fun b => Mut R w b ∨ b = p) w w' := by
  refine (pgWriteAll_run A c l h hp hd hl hok hn0 hn hdis hps.len hat2 hpg (by rw [hst.waits]; simp) (by omega)).mono ?_
  rintro e w' ⟨rfl, hd', ⟨t', hf', ht'⟩, hfr⟩
  have hops : writeOps at0 pages (T + 1) (l.map (·.1)) = (((plcOps (at0 + 8 * pages) (T + 1) (l.map (·.1)) (l.map (·.1)).length ++ secOps (at0 + 8 * pages) (lotB (T + 1) (l.map (·.1)).length) 1) ++ [.fl]) ++ layOps at0 (l.map (·.1)) (l.map (·.1)).length) ++ [.fl] := by unfold writeOps; simp only [List.append_assoc]
  obtain ⟨r1, r2, r3⟩ := hst.runs (((plcOps (at0 + 8 * pages) (T + 1) (l.map (·.1)) (l.map (·.1)).length ++ secOps (at0 + 8 * pages) (lotB (T + 1) (l.map (·.1)).length) 1) ++ [.fl]) ++ layOps at0 (l.map (·.1)) (l.map (·.1)).length)
  rw [← hops] at r1 r2
  have r3' : (runs S (writeOps at0 pages (T + 1) (l.map (·.1)))).1.now = wrote S.now at0 pages (T + 1) (l.map (·.1)) := by
    rw [← nowOps_write, (runs_calm _ hst.calm).2.2]
  rw [ht' r1] at hf'
  refine ⟨_, by rw [r1], r3', hd', r2, ?_, hf', hfr⟩
  rw [r3']
  have hlen : (l.map (·.1)).length = l.length := List.length_map _
  have := hps.wrote (l := l.map (·.1)) (by intro e; rw [e] at hlen; simp at hlen; omega) (by omega) (fun x hx => by
    obtain ⟨y, hy, rfl⟩ := List.mem_map.1 hx
    exact hok y hy) (fun i j x y hx hy hxy => by
    rw [List.getElem?_map] at hx hy
    obtain ⟨a, ha, rfl⟩ := Option.map_eq_some_iff.1 hx
    obtain ⟨b, hb, rfl⟩ := Option.map_eq_some_iff.1 hy
    exact hdis i j a b ha hb hxy) hT
  rw [hlen] at this
  exact this

theorem pgAt_cur {now : List (List UInt8)} {at0 pages T : Nat} {lot : List PgV} {cur : Nat → Option PgV} (h : PSt now at0 pages T lot cur) (no : Nat) (hno : no < pages) : pgAt now at0 no = match cur no with | none => ⟨no, 0, zeros 480⟩ | some x => x := by
  unfold pgAt
  rw [h.page no hno]
  cases hc : cur no with
  | none => rw [if_pos (show (curB none).all (· == 0) = true from zeros_all 512)]
  | some x =>
    obtain ⟨x1, x2⟩ := h.cok no x hno hc
    rw [if_neg (by rw [show curB (some x) = imgB x 0 from rfl, img_some x 0 x1]; decide)]
    exact img_x x 0 x1
end Go.Proofs.YtccmmnacejdeoaaGreatDoor
