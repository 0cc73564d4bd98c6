/-
  Pool9, Pool10, in one text.
-/
import Derived.Test.YtccmmnacejdeoaaGreatDoorMg26
import Derived.Test.YtccmmnacejdeoaaGreatDoorMg21
import Derived.Deep.DeepCutAuto
/-
  write walked.
-/
namespace Go.Proofs.YtccmmnacejdeoaaGreatDoor
set_option linter.unusedSimpArgs false
set_option linter.unusedVariables false
open Go.RowKit Go.Maps

section
variable {RP RQ : Nat → Prop} {w : World} {p f l d pages : Nat} {frames hand : Int} {B : Nat} {rv : Value} {fs : List (Nat × Frm)} {cur : Nat → Option PgV} {L : LS} {S : DS} {T : Nat} {lot : List PgV} {RL RD : Nat → Prop} {N : Nat}
set_option maxHeartbeats 6400000 in
set_option maxRecDepth 100000 in
theorem write_any (hp : PoolAt RP RQ w p f l frames hand B rv fs) (hu : Und w f l d pages cur L S T lot RL RD N) (hap : ∀ b, RP b ∨ RQ b → ¬ RL b ∧ ¬ RD b ∧ b ≠ f) (ys : List (Nat × Frm)) (A : Option Addr) (c : Nat)
    (hys : ∀ y ∈ ys, y ∈ fs) (hin : PtrsIn (fun b => RP b ∨ RL b ∨ RD b ∨ b = f ∨ w.heap.size ≤ b) w A ys) (h0 : 0 < ys.length) (h8 : ys.length ≤ 8) (hdis : ∀ (i j : Nat) x y, ys[i]? = some x → ys[j]? = some y → x.2.x.no = y.2.x.no → i = j) (hok : ∀ y ∈ fs, y.2.x.Ok ∧ y.2.x.no < pages) (hT : T + 1 < 4611686018427387904) :
    Calls Tryz.prog 27 #[.pointer (some ⟨p, 0, none⟩), .slice A ys.length c] w fun e w' => e = .returned (.int .i64 0) ∧ ∃ L' S' RD', PoolAt RP RQ w' p f l frames hand B rv (cleanF (ys.map (·.2.x.no)) fs) ∧ Und w' f l d pages (curW cur (ys.map (·.2.x)) ys.length) L' S' (T + 1) (ys.map (·.2.x)) RL RD' N ∧ LSame L L' ∧ (∀ b, RD' b → RD b ∨ w.heap.size ≤ b) ∧ Fr (fun b => RP b ∨ RL b ∨ RD b ∨ b = f) w w' := by
  obtain ⟨i0, hi0, hz0, hz1, hz2⟩ := info_parts info_Page
  have qP := len_ptrs
  obtain ⟨n, hn⟩ : ∃ n, ys.length = n := ⟨_, rfl⟩
  have HN := Lib.hid hn
  obtain ⟨ga, rfl, hgab, hgac⟩ := hin h0
  have HYs := Lib.hid hys
  have HDis := Lib.hid hdis
  have HOk := Lib.hid hok
  have hlt0 : ∀ b, (RP b ∨ RQ b ∨ RL b ∨ b = f) → b < w.heap.size := fun b hb => by
    rcases hb with hb | hb | hb | hb
    · exact hp.lt b hb
    · exact hp.ltq b hb
    · exact hu.log.lt hb
    · rw [hb]; exact hu.flt
  have HSt : Hid (WSt RP RQ w w p f l d pages frames hand B rv fs cur L L S T lot RL RD RD N (some ⟨ga, 0, none⟩) ys (.slice none 0 0) []) := {
    pool := hp
    und := hu
    same := LSame.refl L
    sub := fun b hb => .inl hb
    ap := hap
    ptr := hin
    row := World.ownsRow_nil _ _ _ _
    rap := fun g hg => by simp [Value.ownBlock] at hg
    cells := fun x hx => by simp at hx
    fr := Fr.refl _ _
    lt0 := hlt0 }
  have HPdis := Lib.hid (fun (i j : Nat) (y z : Nat × Frm) (hi : fs[i]? = some y) (hj : fs[j]? = some z) (e : y.2.x.no = z.2.x.no) => hp.apart hi hj e)
  rw [hn] at h0 h8 ⊢
  clear hp hu hys hin hdis hok hn hgac
  go_enter Tryz.func27, Tryz.ntmps27
  go_wp2
  try (rw [qP]; go_wp2)
  go_loopw [5, 7, 8, 14] (fun pv _ _ iv wr => ∃ (k : Nat) (xs : List (PgV × Value)), k ≤ n ∧ iv = .int .i64 k ∧ Hid (xs.length = k ∧ xs.map (·.1) = (ys.take k).map (·.2.x)) ∧ Hid (∃ (L' : LS) (S' : DS) (RD' : Nat → Prop), WSt RP RQ w wr p f l d pages frames hand B rv fs cur L L' S' T lot RL RD RD' N (some ⟨ga, 0, none⟩) ys pv xs)) (fun _ _ _ iv _ => n - (intOf iv).toNat)
  case atStart => exact ⟨0, [], by omega, rfl, ⟨rfl, rfl⟩, L, S, RD, HSt.out⟩
  case round =>
    clear HSt
    obtain ⟨k, xs, hk, rfl, hxs, hst⟩ := hrel
    obtain ⟨L', S', RD', hst⟩ := hst.out
    by_cases hlt : k < n
    · obtain ⟨y, hy⟩ : ∃ y, ys[k]? = some y := ⟨_, List.getElem?_eq_getElem (by rw [HN.out]; exact hlt)⟩
      have HY := Lib.hid hy
      obtain ⟨b, m⟩ := y
      have hyf : (b, m) ∈ fs := HYs.out _ (List.mem_of_getElem? hy)
      obtain ⟨g', eg, _, hgc⟩ := hst.ptr (by rw [HN.out]; omega)
      injection eg with eg
      injection eg with eg
      subst eg
      have cg := hgc k _ hy
      have zg := cell_lt cg
      dsimp only at cg zg
      obtain ⟨rb, kb, ko, cc, rq, hfb, hbs⟩ := hst.pool.frm _ hyf
      dsimp only at rb hfb hbs
      have HFb := Lib.hid hfb
      have HRq := Lib.hid rq
      have HBs := Lib.hid hbs
      have b0 := hfb.cell 0
      have b1 := hfb.cell 1
      have b2 := hfb.cell 2
      have zb := hfb.lt
      simp only [List.getElem?_toArray, List.getElem?_cons_zero, List.getElem?_cons_succ] at b0 b1 b2
      have kk0 : (k : Int) < (n : Int) := by omega
      have kk1 : (0 : Int) ≤ (k : Int) := by omega
      have e8 : IntKind.i64.wrap ((k : Int) + 1) = (k : Int) + 1 := by rw [IntKind.wrap_i64]; omega
      have HSt := Lib.hid hst
      have HXs := Lib.hid hxs.out
      have hxl : xs.length ≤ 8 := by rw [hxs.out.1]; omega
      have hzw := hst.fr.size
      have HRa : Hid ((wr.alloc (.cells #[.int .i64 m.x.no, .int .u64 m.x.lsn, .slice (some ⟨kb, ko, none⟩) 480 cc] 40)).ownsRow w.heap.size 40 3 u5 xs.length (pgCells xs)) := hst.row.alloc _
      have HNw : Hid (∀ (j : Nat) u, ([.int .i64 m.x.no, .int .u64 m.x.lsn, .slice (some ⟨kb, ko, none⟩) 480 cc] : List Value)[j]? = some u → (wr.alloc (.cells #[.int .i64 m.x.no, .int .u64 m.x.lsn, .slice (some ⟨kb, ko, none⟩) 480 cc] 40)).cell? ((⟨wr.heap.size, 0, none⟩ : Addr).add j) = some u) := fun j u hu => by
        have hb := Blk.new wr 40 #[.int .i64 m.x.no, .int .u64 m.x.lsn, .slice (some ⟨kb, ko, none⟩) 480 cc]
        rw [Addr.add_mid, Nat.zero_add]; exact (hb.cell j).trans (by simpa using hu)
      clear hst hxs hy hfb hbs rq hgc
      go_wp2_with (at_builtin; go_must (refine wpList_append_own_at _ rfl (.tmp 18) (.tmp 23) 104 rfl w.heap.size 40 i0 (.agg #[.int .i64 0, .int .u64 0, .slice none 0 0]) 3 40 Tryz.underlying104 hi0 hz0 hz1 hz2 rfl (by decide) u5 xs.length (pgCells xs) rfl HRa.out ⟨wr.heap.size, 0, none⟩ 1 1 [.int .i64 m.x.no, .int .u64 m.x.lsn, .slice (some ⟨kb, ko, none⟩) 480 cc] rfl rfl HNw.out (by simp [Value.oneCell']) (by unfold maxLen; omega) (by omega) (by simp; omega) ?_); intro v7 w7 hown7 hg7 hn7 hat7; have HO7 := Lib.hid hown7; have HG7 := Lib.hid hg7; have HA7 := Lib.hid hat7; clear hown7 hg7 hn7 hat7)
      have hpush : WSt RP RQ w w7 p f l d pages frames hand B rv fs cur L L' S' T lot RL RD RD' N (some ⟨ga, 0, none⟩) ys v7 (xs ++ [(m.x, .slice (some ⟨kb, ko, none⟩) 480 cc)]) :=
        (HSt.out.new ((Fr.refl Nob wr).alloc (.cells #[.int .i64 m.x.no, .int .u64 m.x.lsn, .slice (some ⟨kb, ko, none⟩) 480 cc] 40))).push (y := (b, m)) HRq.out (HBs.out.new ((Fr.refl Nob wr).alloc _)) HO7.out HG7.out HA7.out
      have HSt7 := Lib.hid hpush
      have HXs7 : Hid ((xs ++ [(m.x, Value.slice (some ⟨kb, ko, none⟩) 480 cc)]).length = k + 1 ∧ (xs ++ [(m.x, Value.slice (some ⟨kb, ko, none⟩) 480 cc)]).map (·.1) = (ys.take (k + 1)).map (·.2.x)) := by
        refine ⟨by rw [List.length_append, HXs.out.1]; rfl, ?_⟩
        rw [List.take_add_one, HY.out, List.map_append, List.map_append, HXs.out.2]; rfl
      obtain ⟨rb', kb', ko', cc', rq', hfb', _⟩ := hpush.pool.frm _ hyf
      dsimp only at hfb'
      have fb1 := hfb'.cell 1
      have zb2 := hfb'.lt
      have p1 := hpush.pool.blk.cell 1
      have zp2 := hpush.pool.blk.lt
      simp only [List.getElem?_toArray, List.getElem?_cons_zero, List.getElem?_cons_succ] at fb1 p1
      obtain ⟨gt, hgt⟩ : ∃ gt, decide (L'.flushed < m.x.lsn) = gt := ⟨_, rfl⟩
      clear hpush hfb' rq' rb'
      have hS : Fr Nob w7 w7.drew := (Fr.refl _ w7).drew
      refine Rg.begin (Fr Nob w7) [] (by kernel_rfl) ?_
      refine Rg.op 0 (some 25) hS (v := ?v0a) (hy := fun wz hwz => ?h0a) (h := ?_)
      case h0a => (go_simp; try with_reducible rfl)
      refine Rg.op 1 (some 26) hS (v := ?v1a) (hy := fun wz hwz => ?h1a) (h := ?_)
      case h1a => (have hpp := Nat.lt_of_lt_of_le zb2 hwz.size; go_simp; try with_reducible rfl)
      refine Rg.op 2 (some 27) hS (v := ?v2a) (hy := fun wz hwz => ?h2a) (h := ?_)
      case h2a => (go_simp; try with_reducible rfl)
      refine Rg.op 3 (some 28) hS (v := ?v3a) (hy := fun wz hwz => ?h3a) (h := ?_)
      case h3a => (go_simp; try with_reducible rfl)
      refine Rg.op 4 (some 29) hS (v := (.int .u64 m.x.lsn)) (hy := fun wz hwz => ?h4a) (h := ?_)
      case h4a => (have cx := (hwz.cell (p := ⟨b, 1, none⟩) zb2 (fun h => h)).trans fb1; have hpp := Nat.lt_of_lt_of_le zb2 hwz.size; go_simp; try with_reducible rfl)
      refine Rg.op 5 (some 30) hS (v := ?v5a) (hy := fun wz hwz => ?h5a) (h := ?_)
      case h5a => (go_simp; try with_reducible rfl)
      refine Rg.op 6 (some 31) hS (v := ?v6a) (hy := fun wz hwz => ?h6a) (h := ?_)
      case h6a => (have hpp := Nat.lt_of_lt_of_le zp2 hwz.size; go_simp; try with_reducible rfl)
      refine Rg.op 7 (some 32) hS (v := ?v7a) (hy := fun wz hwz => ?h7a) (h := ?_)
      case h7a => (go_simp; try with_reducible rfl)
      refine Rg.op 8 (some 33) hS (v := (.pointer (some ⟨l, 0, none⟩))) (hy := fun wz hwz => ?h8a) (h := ?_)
      case h8a => (have cx := (hwz.cell (p := ⟨p, 1, none⟩) zp2 (fun h => h)).trans p1; have hpp := Nat.lt_of_lt_of_le zp2 hwz.size; go_simp; try with_reducible rfl)
      refine Rg.call 9 (some 34) (hrun := ?h9a) (hcall := Flushed_any (HSt7.out.und.log.new hS)) (h := ?_)
      case h9a => (go_simp)
      rintro e w3 ⟨rfl, rfl⟩
      refine ⟨_, ?a9a, rfl, ?b9a, (fun _ => hS), ?_⟩
      case b9a => (simp only [Act.put, List.setIfInBounds_toArray, List.set_cons_zero, List.set_cons_succ]; rfl)
      refine Rg.op 10 (some 35) hS (v := (.bool gt)) (hy := fun wz hwz => ?h10a) (h := ?_)
      case h10a => (have hq := hgt; go_simp; try with_reducible rfl)
      refine Rg.done _ (h := ?_)
      cases gt
      · go_wp2
        go_roundw
        case rel => exact ⟨k + 1, xs ++ [(m.x, Value.slice (some ⟨kb, ko, none⟩) 480 cc)], by omega, by go_num, HXs7, L', S', RD', HSt7.out.new ((Fr.refl _ w7).drew)⟩
        case measure => simp [intOf]; omega
      · have HSt7d := Lib.hid (HSt7.out.new hS)
        have p1 : w7.drew.cell? ⟨p, 1, none⟩ = some (.pointer (some ⟨l, 0, none⟩)) := p1
        have zp2 : p < w7.drew.heap.size := zp2
        go_wp2_with fail
        refine HSt7d.out.flushed.mono ?_
        rintro e w8 ⟨rfl, L8, S8, RD8, hst8⟩
        have HSt8 := Lib.hid hst8
        clear hst8
        go_wp2
        go_roundw
        case rel => exact ⟨k + 1, xs ++ [(m.x, Value.slice (some ⟨kb, ko, none⟩) 480 cc)], by omega, by go_num, HXs7, L8, S8, RD8, HSt8.out⟩
        case measure => simp [intOf]; omega
    · obtain rfl : k = n := by omega
      obtain ⟨A', c', e5, hpg⟩ := hst.pgs
      subst e5
      obtain ⟨hxl, hxm⟩ := hxs.out
      rw [List.take_of_length_le (by rw [HN.out]; exact Nat.le_refl _)] at hxm
      have HSt := Lib.hid hst
      have HXm := Lib.hid hxm
      have HPg := Lib.hid hpg
      have hget : ∀ (i : Nat) x, xs[i]? = some x → ∃ y, ys[i]? = some y ∧ y.2.x = x.1 := fun i x hx => by
        have := congrArg (fun l => l[i]?) hxm
        simp only [List.getElem?_map, hx, Option.map_some] at this
        obtain ⟨y, hy, e⟩ := Option.map_eq_some_iff.1 this.symm
        exact ⟨y, hy, e⟩
      have hwr := hst.und.write A' c' xs hpg (fun x hx => by
        obtain ⟨i, hi⟩ := List.mem_iff_getElem?.1 hx
        obtain ⟨y, hy, e⟩ := hget i x hi
        rw [← e]
        exact HOk.out y (HYs.out y (List.mem_of_getElem? hy))) (by omega) (by omega) (fun i j x y hx hy e => by
        obtain ⟨x', hx', e1⟩ := hget i x hx
        obtain ⟨y', hy', e2⟩ := hget j y hy
        exact HDis.out i j x' y' hx' hy' (by rw [e1, e2]; exact e)) hT
      rw [hxm, hxl] at hwr
      have HWr := Lib.hid hwr
      have p0 := hst.pool.blk.cell 0
      have zp := hst.pool.blk.lt
      simp only [List.getElem?_toArray, List.getElem?_cons_zero, List.getElem?_cons_succ] at p0
      rw [hxl]
      clear hst hxs hxm hpg hget hwr
      go_wp2_with fail
      refine HWr.out.mono ?_
      rintro e w1 ⟨rfl, S1, RD1, hu1, hsub1, hf1⟩
      have hpool1 : PoolAt RP RQ w1 p f l frames hand B rv fs := HSt.out.pool.fr hf1 (fun b hb e => by
        rcases e with e | e
        · exact (HSt.out.ap b (.inl hb)).2.1 e
        · exact (HSt.out.ap b (.inl hb)).2.2 e) (fun b hb e => by
        rcases e with e | e
        · exact (HSt.out.ap b (.inr hb)).2.1 e
        · exact (HSt.out.ap b (.inr hb)).2.2 e)
      have HP1 := Lib.hid hpool1
      have HU1 := Lib.hid hu1
      have HSub1 := Lib.hid hsub1
      have HF1 := Lib.hid hf1
      have HCell : Hid (∀ W, Fr RP w1 W → ∀ (j : Nat) y, ys[j]? = some y → W.cell? ⟨ga, j, none⟩ = some (.pointer (some ⟨y.1, 0, none⟩)) ∧ ga < W.heap.size) := fun W hW j y hy => by
        obtain ⟨g', eg, hgb, hgc⟩ := HSt.out.ptr (by rw [HN.out]; omega)
        injection eg with eg
        injection eg with eg
        subst eg
        have c0 := hgc j y hy
        have z0 := cell_lt c0
        have c1 := (hf1.cell (p := ⟨ga, j, none⟩) z0 (fun e => by
          rcases e with e | e
          · rcases HSt.out.sub _ e with e | e
            · exact hgb (.inr (.inr (.inl e)))
            · exact hgb (.inr (.inr (.inr (.inr e))))
          · exact hgb (.inr (.inr (.inr (.inl e)))))).trans c0
        have z1 := cell_lt c1
        exact ⟨(hW.cell (p := ⟨ga, j, none⟩) z1 (fun e => hgb (.inl e))).trans c1, Nat.lt_of_lt_of_le z1 hW.size⟩
      clear hpool1 hu1 hsub1 hf1 HWr p0 zp
      go_wp2
      try (rw [qP]; go_wp2)
      go_loopw [11, 56] (fun _ iv wq => ∃ j : Nat, j ≤ k ∧ iv = .int .i64 j ∧ Hid (PoolAt RP RQ wq p f l frames hand B rv (cleanF ((ys.take j).map (·.2.x.no)) fs)) ∧ Hid (Fr RP w1 wq)) (fun _ iv _ => k - (intOf iv).toNat)
      case atStart => exact ⟨0, by omega, rfl, by rw [List.take_zero, List.map_nil, cleanF_nil]; exact HP1, Fr.refl _ _⟩
      case round =>
        obtain ⟨j, hj, rfl, hpq, hfq⟩ := hrel
        by_cases hlt : j < k
        · obtain ⟨y, hy⟩ : ∃ y, ys[j]? = some y := ⟨_, List.getElem?_eq_getElem (by rw [HN.out]; exact hlt)⟩
          obtain ⟨cg, zg⟩ := HCell.out _ hfq.out j y hy
          have HY := Lib.hid hy
          obtain ⟨i, hi⟩ := List.mem_iff_getElem?.1 (HYs.out y (List.mem_of_getElem? hy))
          have HI := Lib.hid hi
          obtain ⟨mm, hmm⟩ : ∃ mm, (cleanF ((ys.take j).map (·.2.x.no)) fs)[i]? = some mm := ⟨_, cleanF_get hi⟩
          have hm1 : mm.1 = y.1 ∧ mm.2.x = y.2.x ∧ mm.2.used = y.2.used := by
            rw [cleanF_get hi] at hmm
            injection hmm with hmm
            subst hmm
            split <;> exact ⟨rfl, rfl, rfl⟩
          obtain ⟨b, m⟩ := mm
          have HMm := Lib.hid hmm
          have HM1 := Lib.hid hm1
          have e1 : b = y.1 := hm1.1
          rw [← e1] at cg
          obtain ⟨rb, kb, ko, cc, rq, hfb, hbs⟩ := hpq.out.frm _ (List.mem_of_getElem? hmm)
          dsimp only at rb hfb hbs
          have HFb := Lib.hid hfb
          have HBs := Lib.hid hbs
          have HRq := Lib.hid rq
          have fb3 := hfb.cell 3
          have fq3 := hfb.frozen 3
          have zb := hfb.lt
          simp only [List.getElem?_toArray, List.getElem?_cons_zero, List.getElem?_cons_succ] at fb3
          have kk0 : (j : Int) < (k : Int) := by omega
          have kk1 : (0 : Int) ≤ (j : Int) := by omega
          have e8 : IntKind.i64.wrap ((j : Int) + 1) = (j : Int) + 1 := by rw [IntKind.wrap_i64]; omega
          clear hy hi hmm hm1 e1 hfb hbs rq
          go_wp2
          have hfs : Fr (fun x => x = b) _ _ := (Fr.refl (fun x => x = b) wr).setCell (p := ⟨b, 3, none⟩) (.inr rfl) (.bool false)
          have hm' : FrmAt RP RQ (wr.setCell ⟨b, 3, none⟩ (.bool false)) b { m with dirty := false } := ⟨rb, kb, ko, cc, HRq.out, HFb.out.set_ 3 _, HBs.out.fr hfs (fun a ha e => by injection ha with ha; subst ha; exact hpq.out.ap b rb (e ▸ HRq.out))⟩
          have hstep := hpq.out.setF (m' := { m with dirty := false }) HMm.out hfs rfl hm'
          have hcl := cleanF_step HI.out (fun j' z hz e => HPdis.out j' i z y hz HI.out e) HMm.out
          dsimp only at hcl
          rw [hcl] at hstep
          go_roundw
          case rel => exact ⟨j + 1, by omega, by go_num, by rw [List.take_add_one, HY.out, List.map_append]; exact hstep, hfq.out.setCell (p := ⟨b, 3, none⟩) (.inr rb) _⟩
          case measure => simp [intOf]; omega
        · obtain rfl : j = k := by omega
          have HPq := Lib.hid hpq.out
          have HFq := Lib.hid hfq.out
          clear hpq hfq
          go_wp2
          go_ret
          refine ⟨rfl, L', S1, RD1, ?_, ?_, HSt.out.same, ?_, ?_⟩
          · have := HPq.out
            rwa [List.take_of_length_le (by rw [HN.out]; exact Nat.le_refl _)] at this
          · have hF := HFq.out
            exact HU1.out.fr hF (fun b hb e => (HSt.out.ap b (.inl e)).1 hb) (fun b hb e => by
              rcases HSub1.out b hb with h | h
              · exact (HSt.out.ap b (.inl e)).2.1 h
              · have := HSt.out.pool.lt b e; omega) (fun e => (HSt.out.ap f (.inl e)).2.2 rfl)
          · intro b hb
            rcases HSub1.out b hb with h | h
            · exact HSt.out.sub b h
            · have := HSt.out.fr.size; exact .inr (by omega)
          · have hF := HFq.out
            have hG := HF1.out
            have hH := HSt.out.fr
            refine ((hH.mono (fun b _ e => .inr (e.elim .inl (fun e => .inr (.inl e)))) : Fr (fun b => RP b ∨ RL b ∨ RD b ∨ b = f) _ _).step hG (fun i hi e => ?_)).step hF (fun i hi e => .inl e)
            rcases e with e | e
            · rcases HSt.out.sub i e with e | e
              · exact .inr (.inr (.inl e))
              · omega
            · exact .inr (.inr (.inr e))
end
end Go.Proofs.YtccmmnacejdeoaaGreatDoor

/-
  A pool with all that lies under it (PIn); Evict.
-/
namespace Go.Proofs.YtccmmnacejdeoaaGreatDoor
set_option linter.unusedSimpArgs false
set_option linter.unusedVariables false
open Go.RowKit Go.Maps

structure PIn (w : World) (p f l d pages : Nat) (frames : Int) (V : Nat → PgV) (L : LS) (M N : Nat) (RP RQ RL RD : Nat → Prop) (hand : Int) (B : Nat) (rv : Value) (fs : List (Nat × Frm)) (cur : Nat → Option PgV) (S : DS) (T : Nat) (lot : List PgV) : Prop where
  pool : PoolAt RP RQ w p f l frames hand B rv fs
  und : Und w f l d pages cur L S T lot RL RD N
  ap : ∀ b, RP b ∨ RQ b → ¬ RL b ∧ ¬ RD b ∧ b ≠ f
  views : Views fs cur pages V
  tm : T ≤ M
  M1 : M ≤ 1000000000000000000
  vok : ∀ no, no < pages → (V no).Ok ∧ (V no).no = no
/-- All blocks of a pool and of what lies under it. -/
def Uni (RP RQ RL RD : Nat → Prop) (f : Nat) : Nat → Prop := fun b => RP b ∨ RQ b ∨ RL b ∨ RD b ∨ b = f
section
variable {w w' : World} {p f l d pages : Nat} {frames : Int} {V : Nat → PgV} {L : LS} {M N : Nat} {RP RQ RL RD F : Nat → Prop} {hand : Int} {B : Nat} {rv : Value} {fs : List (Nat × Frm)} {cur : Nat → Option PgV} {S : DS} {T : Nat} {lot : List PgV}
theorem PIn.fr (h : PIn w p f l d pages frames V L M N RP RQ RL RD hand B rv fs cur S T lot) (hf : Fr F w w') (hF : ∀ b, Uni RP RQ RL RD f b → ¬ F b) : PIn w' p f l d pages frames V L M N RP RQ RL RD hand B rv fs cur S T lot :=
  { h with
    pool := h.pool.fr hf (fun b hb => hF b (.inl hb)) (fun b hb => hF b (.inr (.inl hb)))
    und := h.und.fr hf (fun b hb => hF b (.inr (.inr (.inl hb)))) (fun b hb => hF b (.inr (.inr (.inr (.inl hb))))) (hF f (.inr (.inr (.inr (.inr rfl))))) }
theorem PIn.new (h : PIn w p f l d pages frames V L M N RP RQ RL RD hand B rv fs cur S T lot) (hf : Fr Nob w w') : PIn w' p f l d pages frames V L M N RP RQ RL RD hand B rv fs cur S T lot := h.fr hf (fun _ _ h => h)
theorem PIn.lt (h : PIn w p f l d pages frames V L M N RP RQ RL RD hand B rv fs cur S T lot) {b : Nat} (hb : Uni RP RQ RL RD f b) : b < w.heap.size := by
  rcases hb with hb | hb | hb | hb | hb
  · exact h.pool.lt b hb
  · exact h.pool.ltq b hb
  · exact h.und.log.lt hb
  · exact h.und.disk.lt hb
  · rw [hb]; exact h.und.flt
/-- The pool behind a step that let its frames be SameUsed. -/
theorem PIn.used (h : PIn w p f l d pages frames V L M N RP RQ RL RD hand B rv fs cur S T lot) {gs : List (Nat × Frm)} {hand' : Int} (hp : PoolAt RP RQ w' p f l frames hand' B rv gs) (hs : SameUsed fs gs) (hf : Fr RP w w') : PIn w' p f l d pages frames V L M N RP RQ RL RD hand' B rv gs cur S T lot :=
  { h with
    pool := hp
    und := h.und.fr hf (fun b hb e => (h.ap b (.inl e)).1 hb) (fun b hb e => (h.ap b (.inl e)).2.1 hb) (fun e => (h.ap f (.inl e)).2.2 rfl)
    views := h.views.same hs }

set_option maxRecDepth 100000 in
theorem Pages_any {w : World} {f d at0 pages turn : Nat} (h : FileAt w f d at0 pages turn) : Calls Tryz.prog 23 #[.pointer (some ⟨f, 0, none⟩)] w fun e w' => e = .returned (.int .i64 pages) ∧ w = w' := by
  have c2 := Blk.cell h 2
  have hz := Blk.lt h
  simp only [List.getElem?_toArray, List.getElem?_cons_zero, List.getElem?_cons_succ] at c2
  clear h
  go_enter Tryz.func23, Tryz.ntmps23
  go_wp2
  go_ret
  exact ⟨rfl, rfl⟩
/-- .. of a page that is not held. -/
theorem Evict_not (h : PIn w p f l d pages frames V L M N RP RQ RL RD hand B rv fs cur S T lot) (no : Nat) (hno : no < pages) (hn : ∀ y ∈ fs, y.2.x.no ≠ no) :
    Calls Tryz.prog 10 #[.pointer (some ⟨p, 0, none⟩), .int .i64 no] w fun e w' => e = .returned (.int .i64 0) ∧ w = w' := by
  have HPg := Lib.hid (Pages_any h.und.file)
  have HMap := Lib.hid h.pool.map
  have HHeld : Hid (heldAt (ksOf fs) (no : Int) = none) := heldAt_none (fun k hk e => by
    unfold ksOf at hk
    obtain ⟨y, hy, rfl⟩ := List.mem_map.1 hk
    exact hn y hy (by have e : (y.2.x.no : Int) = no := e; omega))
  have hpg := h.und.pg2
  have p0 := h.pool.blk.cell 0
  have p3 := h.pool.blk.cell 3
  have zp := h.pool.blk.lt
  simp only [List.getElem?_toArray, List.getElem?_cons_zero, List.getElem?_cons_succ] at p0 p3
  have h1 : ¬ (no : Int) < 0 := by omega
  have h2 : ¬ (pages : Int) ≤ (no : Int) := by omega
  clear h hn
  go_enter Tryz.func10, Tryz.ntmps10
  go_wp2_with fail
  refine HPg.out.mono ?_
  rintro e w1 ⟨rfl, rfl⟩
  go_wp2_with (with_reducible refine wpList_fr_look _ rfl _ _ _ rfl _ _ key_law Tryz.underlying67 (mapif_zero _) B _ _ rfl HMap.out (no : Int) rfl (key_of _ (by omega) (by omega)) ?_; rw [HHeld.out])
  go_ret
  exact ⟨rfl, rfl⟩
/-- What Evict leaves of a page that was held. -/
theorem PIn.dropped (h : PIn w p f l d pages frames V L M N RP RQ RL RD hand B rv fs cur S T lot) {i b : Nat} {m : Frm} (hi : fs[i]? = some (b, m)) (hd : m.dirty = false) {rv' : Value} (hp : PoolAt RP RQ w' p f l frames hand B rv' (fs.eraseIdx i)) (hf : Fr RP w w') :
    PIn w' p f l d pages frames V L M N RP RQ RL RD hand B rv' (fs.eraseIdx i) cur S T lot :=
  { h with
    pool := hp
    und := h.und.fr hf (fun b hb e => (h.ap b (.inl e)).1 hb) (fun b hb e => (h.ap b (.inl e)).2.1 hb) (fun e => (h.ap f (.inl e)).2.2 rfl)
    views := h.views.drop hi hd }
/-- What write leaves of one page. -/
theorem PIn.wrote (h : PIn w p f l d pages frames V L M N RP RQ RL RD hand B rv fs cur S T lot) {i b : Nat} {m : Frm} (hi : fs[i]? = some (b, m)) {L' : LS} {S' : DS} {RD' : Nat → Prop} (hM : M + 1 ≤ 1000000000000000000)
    (hp : PoolAt RP RQ w' p f l frames hand B rv (cleanF [m.x.no] fs)) (hu : Und w' f l d pages (curW cur [m.x] 1) L' S' (T + 1) [m.x] RL RD' N) (hsub : ∀ b, RD' b → RD b ∨ w.heap.size ≤ b) :
    PIn w' p f l d pages frames V L' (M + 1) N RP RQ RL RD' hand B rv (cleanF [m.x.no] fs) (curW cur [m.x] 1) S' (T + 1) [m.x] where
  pool := hp
  und := hu
  ap := fun b hb => ⟨(h.ap b hb).1, fun e => by
    rcases hsub b e with e | e
    · exact (h.ap b hb).2.1 e
    · rcases hb with hb | hb
      · have := h.pool.lt b hb; omega
      · have := h.pool.ltq b hb; omega, (h.ap b hb).2.2⟩
  views := h.views.cleaned [m.x.no] (fun no hno => by
    unfold curW
    dsimp only [List.getElem?_cons_zero]
    rw [if_neg (fun e => hno (List.mem_singleton.2 e))]; rfl) (fun y hy hn => by
    rw [List.mem_singleton] at hn
    obtain ⟨j, hj⟩ := List.mem_iff_getElem?.1 hy
    have := h.pool.apart hj hi hn
    subst this
    rw [hi] at hj
    injection hj with hj
    subst hj
    unfold curW
    dsimp only [List.getElem?_cons_zero]
    rw [if_pos rfl]) (fun n hn => by
    rw [List.mem_singleton] at hn
    exact ⟨_, List.mem_of_getElem? hi, hn.symm⟩)
  tm := by have := h.tm; omega
  M1 := hM
  vok := h.vok
set_option maxHeartbeats 3200000 in
set_option maxRecDepth 100000 in
theorem Evict_held (h : PIn w p f l d pages frames V L M N RP RQ RL RD hand B rv fs cur S T lot) {i b : Nat} {m : Frm} (hi : fs[i]? = some (b, m)) (hM : M + 1 ≤ 1000000000000000000) :
    Calls Tryz.prog 10 #[.pointer (some ⟨p, 0, none⟩), .int .i64 m.x.no] w fun e w' => e = .returned (.int .i64 0) ∧ ∃ L' S' T' lot' RD' rv' fs' cur', PIn w' p f l d pages frames V L' (M + 1) N RP RQ RL RD' hand B rv' fs' cur' S' T' lot' ∧ LSame L L' ∧ fs'.length + 1 = fs.length ∧ (∀ y ∈ fs', y.2.x.no ≠ m.x.no ∧ ∃ z ∈ fs, z.2.x.no = y.2.x.no ∧ (y.2.dirty = true → z.2.dirty = true)) ∧ (∀ b, RD' b → RD b ∨ w.heap.size ≤ b) ∧ Fr (Uni RP RQ RL RD f) w w' := by
  have H := Lib.hid h
  have HI := Lib.hid hi
  have hil := (List.getElem?_eq_some_iff.1 hi).1
  have hmf := List.mem_of_getElem? hi
  have HPg := Lib.hid (Pages_any h.und.file)
  have HMap := Lib.hid h.pool.map
  have HHeld : Hid (heldAt (ksOf fs) (m.x.no : Int) = some b) := heldAt_at h.pool.dis (ksOf_of hi)
  obtain ⟨hmok, hno⟩ := h.views.ok _ hmf
  have hno : m.x.no < pages := hno
  have hno5 : m.x.no < 100000 := hmok.no
  have hpg := h.und.pg2
  have htm := h.tm
  obtain ⟨rb, kb, ko, cc, rq, hfb, hbs⟩ := h.pool.frm _ hmf
  dsimp only at rb hfb hbs
  have fb3 := hfb.cell 3
  have zb := hfb.lt
  have p0 := h.pool.blk.cell 0
  have p3 := h.pool.blk.cell 3
  have zp := h.pool.blk.lt
  simp only [List.getElem?_toArray, List.getElem?_cons_zero, List.getElem?_cons_succ] at p0 p3 fb3
  have h1 : ¬ (m.x.no : Int) < 0 := by omega
  have h2 : ¬ (pages : Int) ≤ (m.x.no : Int) := by omega
  have hdisE : ∀ (j : Nat) y, fs[j]? = some y → y.2.x.no = m.x.no → j = i := fun j y hj e => h.pool.apart hj hi e
  have hers : ∀ (gs : List (Nat × Frm)), gs.length = fs.length → (∀ (j : Nat) y, gs[j]? = some y → ∃ z, fs[j]? = some z ∧ z.2.x = y.2.x ∧ (y.2.dirty = true → z.2.dirty = true)) → (gs.eraseIdx i).length + 1 = fs.length ∧ (∀ y ∈ gs.eraseIdx i, y.2.x.no ≠ m.x.no ∧ ∃ z ∈ fs, z.2.x.no = y.2.x.no ∧ (y.2.dirty = true → z.2.dirty = true)) := fun gs hgl hg => by
    refine ⟨by rw [List.length_eraseIdx, if_pos (by omega)]; omega, fun y hy => ?_⟩
    obtain ⟨j, hj1, hj2⟩ := List.mem_eraseIdx_iff_getElem?.1 hy
    obtain ⟨z, hz, e, ed⟩ := hg j y hj2
    exact ⟨fun e2 => hj1 (hdisE j z hz (by rw [e]; exact e2)), z, List.mem_of_getElem? hz, by rw [e], ed⟩
  have HErs := Lib.hid hers
  cases hdirty : m.dirty
  · have HDt := Lib.hid hdirty
    rw [hdirty] at fb3
    have HDrop := Lib.hid (drop_any h.pool hi hno5)
    clear h hi hmf hfb hbs rq hdirty hdisE hers
    go_enter Tryz.func10, Tryz.ntmps10
    go_wp2_with fail
    refine HPg.out.mono ?_
    rintro e w1 ⟨rfl, rfl⟩
    go_wp2_with (with_reducible refine wpList_fr_look _ rfl _ _ _ rfl _ _ key_law Tryz.underlying67 (mapif_zero _) B _ _ rfl HMap.out (m.x.no : Int) rfl (key_of _ (by omega) (by omega)) ?_; rw [HHeld.out]; dsimp only [ptrOf, Option.isSome])
    refine HDrop.out.mono ?_
    rintro e w2 ⟨rfl, rv', hp2, hf2⟩
    have hf2' : Fr RP w w2 := hf2.mono (fun b _ e => by
      rcases e with rfl | rfl | e
      · exact H.out.pool.rp
      · exact H.out.pool.rB
      · exact H.out.pool.rA b e.symm)
    have HIn2 := Lib.hid (H.out.dropped HI.out HDt.out hp2 hf2')
    have HF2 := Lib.hid hf2'
    clear hp2 hf2 hf2' HDrop
    go_wp2
    go_ret
    obtain ⟨q1, q2⟩ := HErs.out fs rfl (fun j y hj => ⟨y, hj, rfl, id⟩)
    exact ⟨rfl, L, S, T, lot, RD, rv', fs.eraseIdx i, cur, { HIn2.out with tm := by have := HIn2.out.tm; omega, M1 := hM }, LSame.refl L, q1, q2, fun b hb => .inl hb, HF2.out.mono (fun b _ e => .inl e)⟩
  · have HDt := Lib.hid hdirty
    rw [hdirty] at fb3
    clear h hi hmf hfb hbs rq hdirty hdisE hers
    go_enter Tryz.func10, Tryz.ntmps10
    go_wp2_with fail
    refine HPg.out.mono ?_
    rintro e w1 ⟨rfl, rfl⟩
    go_wp2_with (with_reducible refine wpList_fr_look _ rfl _ _ _ rfl _ _ key_law Tryz.underlying67 (mapif_zero _) B _ _ rfl HMap.out (m.x.no : Int) rfl (key_of _ (by omega) (by omega)) ?_; rw [HHeld.out]; dsimp only [ptrOf, Option.isSome])
    have hfa : Fr Nob w (w.alloc (.cells #[.pointer (some ⟨b, 0, none⟩)] 71)) := (Fr.refl _ w).alloc _
    have hsz : (w.alloc (.cells #[.pointer (some ⟨b, 0, none⟩)] 71)).heap.size = w.heap.size + 1 := by simp
    have hwr : Calls Tryz.prog 27 #[.pointer (some ⟨p, 0, none⟩), .slice (some ⟨w.heap.size, 0, none⟩) 1 1] (w.alloc (.cells #[.pointer (some ⟨b, 0, none⟩)] 71)) fun e w' => e = .returned (.int .i64 0) ∧ ∃ L' S' RD', PoolAt RP RQ w' p f l frames hand B rv (cleanF [m.x.no] fs) ∧ Und w' f l d pages (curW cur [m.x] 1) L' S' (T + 1) [m.x] RL RD' N ∧ LSame L L' ∧ (∀ x, RD' x → RD x ∨ (w.alloc (.cells #[.pointer (some ⟨b, 0, none⟩)] 71)).heap.size ≤ x) ∧ Fr (fun x => RP x ∨ RL x ∨ RD x ∨ x = f) (w.alloc (.cells #[.pointer (some ⟨b, 0, none⟩)] 71)) w' :=
      write_any (H.out.pool.new hfa) (H.out.und.new hfa) H.out.ap [(b, m)] (some ⟨w.heap.size, 0, none⟩) 1 (fun y hy => by
        rw [List.mem_singleton] at hy; rw [hy]; exact List.mem_of_getElem? HI.out) (fun _ => ⟨w.heap.size, rfl, fun e => by
        rcases e with e | e | e | e | e
        · have := H.out.lt (.inl e); omega
        · have := H.out.lt (.inr (.inr (.inl e))); omega
        · have := H.out.lt (.inr (.inr (.inr (.inl e)))); omega
        · have := H.out.lt (b := f) (.inr (.inr (.inr (.inr rfl)))); omega
        · omega, fun j y hy => by
        have hj : j = 0 := by have := (List.getElem?_eq_some_iff.1 hy).1; simp at this; exact this
        subst hj
        simp only [List.getElem?_cons_zero, Option.some.injEq] at hy
        subst hy
        exact (Blk.new w 71 #[.pointer (some ⟨b, 0, none⟩)]).cell 0⟩) (by simp) (by simp) (fun i j x y hi hj _ => by
        have h1 := (List.getElem?_eq_some_iff.1 hi).1
        have h2 := (List.getElem?_eq_some_iff.1 hj).1
        simp at h1 h2; omega) H.out.views.ok (by omega)
    refine hwr.mono ?_
    rintro e w1 ⟨rfl, L', S', RD', hp1, hu1, hs1, hsub1, hf1⟩
    have hsub1' : ∀ x, RD' x → RD x ∨ w.heap.size ≤ x := fun x hx => (hsub1 x hx).imp id (fun h => by omega)
    have hin1 := PIn.wrote H.out HI.out hM hp1 hu1 hsub1'
    have hci : (cleanF [m.x.no] fs)[i]? = some (b, { m with dirty := false }) := by
      rw [cleanF_get HI.out, if_pos (List.mem_singleton.2 rfl)]
    have hcx : ∀ (j : Nat) y, (cleanF [m.x.no] fs)[j]? = some y → ∃ z, fs[j]? = some z ∧ z.2.x = y.2.x ∧ (y.2.dirty = true → z.2.dirty = true) := fun j y hj => by
      unfold cleanF at hj
      rw [List.getElem?_map] at hj
      obtain ⟨z, hz, rfl⟩ := Option.map_eq_some_iff.1 hj
      exact ⟨z, hz, by split <;> rfl, fun hd => by
        split at hd
        · exact (Bool.noConfusion hd)
        · exact hd⟩
    have HIn1 := Lib.hid hin1
    have HCi := Lib.hid hci
    have HCx := Lib.hid hcx
    have HS1 := Lib.hid hs1
    have HSub1 := Lib.hid hsub1'
    have HF1 : Hid (Fr (fun x => RP x ∨ RL x ∨ RD x ∨ x = f) w w1) := (hfa.mono (fun _ _ h => h.elim) : Fr (fun x => RP x ∨ RL x ∨ RD x ∨ x = f) w _).trans hf1
    have HDrop := Lib.hid (drop_any hp1 hci hno5)
    clear hwr hp1 hu1 hs1 hsub1 hsub1' hf1 hin1 hci hcx hfa hsz
    go_wp2_with fail
    refine HDrop.out.mono ?_
    rintro e w2 ⟨rfl, rv', hp2, hf2⟩
    have hf2' : Fr RP w1 w2 := hf2.mono (fun b _ e => by
      rcases e with rfl | rfl | e
      · exact H.out.pool.rp
      · exact H.out.pool.rB
      · exact H.out.pool.rA b e.symm)
    have HIn2 := Lib.hid (HIn1.out.dropped HCi.out rfl hp2 hf2')
    have HF2 := Lib.hid hf2'
    clear hp2 hf2 hf2' HDrop
    go_wp2
    go_ret
    obtain ⟨q1, q2⟩ := HErs.out (cleanF [m.x.no] fs) (by simp [cleanF]) HCx.out
    refine ⟨rfl, L', S', T + 1, [m.x], RD', rv', (cleanF [m.x.no] fs).eraseIdx i, curW cur [m.x] 1, HIn2.out, HS1.out, q1, q2, HSub1.out, ?_⟩
    refine (HF1.out.mono (fun b _ e => ?_) : Fr (Uni RP RQ RL RD f) w w1).step HF2.out (fun b _ e => .inl e)
    rcases e with e | e | e | e
    · exact .inl e
    · exact .inr (.inr (.inl e))
    · exact .inr (.inr (.inr (.inl e)))
    · exact .inr (.inr (.inr (.inr e)))
end
end Go.Proofs.YtccmmnacejdeoaaGreatDoor
