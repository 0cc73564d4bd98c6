/-
  PgLayR, PgMay, in one text.
-/
import Derived.Test.YtccmmnacejdeoaaGreatDoorMg18
import Derived.Maps.Own
/-
  lay, whatever the fuse.
-/
namespace Go.Proofs.YtccmmnacejdeoaaGreatDoor
set_option linter.unusedSimpArgs false
set_option linter.unusedVariables false
open Go.RowKit

def layOps (at0 : Nat) (l : List PgV) : Nat → List WOp
  | 0 => []
  | k + 1 => match l[k]? with
    | some x => layOps at0 l k ++ secOps (at0 + 8 * x.no) (imgB x 0) 8
    | none => layOps at0 l k
theorem layOps_some {at0 : Nat} {l : List PgV} {k : Nat} {x : PgV} (h : l[k]? = some x) : layOps at0 l (k + 1) = layOps at0 l k ++ secOps (at0 + 8 * x.no) (imgB x 0) 8 := by
  conv => lhs; unfold layOps
  rw [h]
theorem layOps_none {at0 : Nat} {l : List PgV} {k : Nat} (h : l[k]? = none) : layOps at0 l (k + 1) = layOps at0 l k := by
  conv => lhs; unfold layOps
  rw [h]
theorem layOps_length (at0 : Nat) (l : List PgV) : ∀ k, (layOps at0 l k).length ≤ 8 * k
  | 0 => Nat.le_refl _
  | k + 1 => by
    have := layOps_length at0 l k
    unfold layOps
    split
    · rw [List.length_append, secOps_length]; omega
    · omega
theorem layOps_split (at0 : Nat) (l : List PgV) (j : Nat) : ∀ n, j ≤ n → ∃ r, layOps at0 l n = layOps at0 l j ++ r
  | 0, h => by obtain rfl : j = 0 := by omega
               exact ⟨[], (List.append_nil _).symm⟩
  | n + 1, h => by
    by_cases e : j = n + 1
    · subst e; exact ⟨[], (List.append_nil _).symm⟩
    · obtain ⟨r, hr⟩ := layOps_split at0 l j n (by omega)
      cases hx : l[n]? with
      | some x => exact ⟨r ++ secOps (at0 + 8 * x.no) (imgB x 0) 8, (layOps_some hx).trans (by rw [hr, List.append_assoc])⟩
      | none => exact ⟨r, (layOps_none hx).trans hr⟩
theorem runs_wlen {S : DS} {l : List WOp} {m : Nat} (h : l.length ≤ m) : (runs S l).1.waits.length ≤ S.waits.length + m := by
  have := runs_waits S l; omega

set_option maxHeartbeats 3200000 in
set_option maxRecDepth 100000 in
theorem lay_run {R : Nat → Prop} {w : World} {p d at0 pages turn : Nat} {S : DS} (A : Option Addr) (c : Nat) (l : List (PgV × Value)) (h : FileAt w p d at0 pages turn) (hp : ¬ R p) (hd : DiskOk R w d S) (hl : PgsIn R w A l) (hok : ∀ x ∈ l, x.1.Ok ∧ x.1.no < pages) (hn : l.length ≤ 8) (hat : at0 + 8 * pages ≤ S.now.length) (hat2 : at0 ≤ 60000) (hpg : pages ≤ 5000) (hwl : S.waits.length ≤ 900000) :
    Calls Tryz.prog 39 #[.pointer (some ⟨p, 0, none⟩), .slice A l.length c] w fun e w' => e = .returned (.int .i64 (runs S (layOps at0 (l.map (·.1)) l.length ++ [.fl])).2) ∧ DiskOk (Ext R w w') w' d (runs S (layOps at0 (l.map (·.1)) l.length ++ [.fl])).1 ∧ FrD R w w' := by
  have qP := len_Pg
  have H := Lib.hid h
  have hp0 := h.lt
  have HL := Lib.hid hl
  have HOk := Lib.hid hok
  have HRl : Hid (∀ x, R x → x < w.heap.size) := fun x hx => hd.lt hx
  have HD0 : Hid (DiskOk (Ext R w w) w d (runs S (layOps at0 (l.map (·.1)) 0)).1) := hd.ext (Nat.le_refl _) hd
  have HWl : Hid (∀ k, (runs S (layOps at0 (l.map (·.1)) k)).1.now.length = S.now.length) := fun k => runs_length S _
  have HWs : Hid (∀ k, (runs S (layOps at0 (l.map (·.1)) k)).1.waits.length ≤ S.waits.length + 8 * k) := fun k => runs_wlen (layOps_length at0 _ k)
  obtain ⟨n, hnn⟩ : ∃ n, l.length = n := ⟨_, rfl⟩
  have HN := Lib.hid hnn
  rw [hnn] at hn ⊢
  clear h hd hl hok hnn
  go_enter Tryz.func39, Tryz.ntmps39
  go_wp2
  try (rw [qP]; go_wp2)
  go_loopw [6, 7, 10] (fun _ _ iv wr => ∃ k : Nat, k ≤ n ∧ iv = .int .i64 k ∧ Hid (DiskOk (Ext R w wr) wr d (runs S (layOps at0 (l.map (·.1)) k)).1) ∧ Hid ((runs S (layOps at0 (l.map (·.1)) k)).2 = 0) ∧ Hid (FrD R w wr)) (fun _ _ iv _ => n - (intOf iv).toNat)
  case atStart => exact ⟨0, by omega, rfl, HD0, rfl, Fr.refl _ _⟩
  case round =>
    clear HD0
    obtain ⟨k, hk, rfl, hD, hC0, hF⟩ := hrel
    by_cases hlt : k < n
    · have hkl : k < l.length := by rw [HN.out]; exact hlt
      obtain ⟨x, hx⟩ : ∃ x, l[k]? = some x := ⟨_, List.getElem?_eq_getElem hkl⟩
      have hin := HL.out.fr hF.out.fr (fun b _ h => h)
      obtain ⟨g, rfl, hgR, hcs⟩ := hin (by omega)
      obtain ⟨c0, c1, c2, kb, ko, cc, hv, hbs, hkb⟩ := hcs k x hx
      have hxok := HOk.out x (List.mem_of_getElem? hx)
      have hstep : layOps at0 (l.map (·.1)) (k + 1) = layOps at0 (l.map (·.1)) k ++ secOps (at0 + 8 * x.1.no) (imgB x.1 0) 8 := by
        conv => lhs; unfold layOps
        rw [List.getElem?_map, hx]; rfl
      have HSt := Lib.hid hstep
      have hcl := cell_lt c0
      rw [hv] at c2
      obtain ⟨⟨xn, xl, xd⟩, xv⟩ := x
      dsimp only at c0 c1 c2 hbs hxok
      have HBs := Lib.hid hbs
      have hx1 := hxok.1.no
      have hx2 := hxok.1.lsn
      have hx3 := hxok.1.d
      have hx4 := hxok.2
      dsimp only at hx1 hx2 hx3 hx4
      have HX3 := Lib.hid hx3
      clear hcs hin hbs hstep hv hxok hx hx3
      go_wp2
      have hfb : FileAt wr p d at0 pages turn := H.out.fr hF.out.fr hp
      have hfa : FileAt (wr.alloc (.cells #[.int .i64 xn, .int .u64 xl, .slice (some ⟨kb, ko, none⟩) 480 cc] 40)) p d at0 pages turn := Blk.alloc hfb _
      have hbx : Blk (wr.alloc (.cells #[.int .i64 xn, .int .u64 xl, .slice (some ⟨kb, ko, none⟩) 480 cc] 40)) wr.heap.size 40 #[.int .i64 xn, .int .u64 xl, .slice (some ⟨kb, ko, none⟩) 480 cc] := Blk.new _ _ _
      have hna : Fr Nob wr (wr.alloc (.cells #[.int .i64 xn, .int .u64 xl, .slice (some ⟨kb, ko, none⟩) 480 cc] 40)) := (Fr.refl _ wr).alloc _
      have hsza : (wr.alloc (.cells #[.int .i64 xn, .int .u64 xl, .slice (some ⟨kb, ko, none⟩) 480 cc] 40)).heap.size = wr.heap.size + 1 := World.size_alloc ..
      obtain ⟨wa, hwa⟩ : ∃ W, wr.alloc (.cells #[.int .i64 xn, .int .u64 xl, .slice (some ⟨kb, ko, none⟩) 480 cc] 40) = W := ⟨_, rfl⟩
      rw [hwa] at hfa hbx hna hsza ⊢
      obtain ⟨gb, hgb⟩ : ∃ g, wr.heap.size = g := ⟨_, rfl⟩
      have HGb := Lib.hid hgb
      rw [hgb] at hbx hsza ⊢
      have hFs := hF.out.size
      have hpE : ¬ Ext R w wr p := fun h => by rcases h with h | h; exact hp h; omega
      have hbE : ¬ Ext R w wr gb := fun h => by
        rcases h with h | h
        · have := HRl.out gb h; omega
        · omega
      have HFa := Lib.hid hfa
      have HBx := Lib.hid hbx
      have HNa := Lib.hid hna
      have HDa := Lib.hid (hD.out.new hna)
      have u1 : IntKind.i64.wrap (8 * (xn : Int)) = 8 * (xn : Int) := by rw [IntKind.wrap_i64]; omega
      have u2 : IntKind.i64.wrap ((at0 : Int) + 8 * (xn : Int)) = ((at0 + 8 * xn : Nat) : Int) := by rw [IntKind.wrap_i64]; omega
      obtain ⟨ax, hax⟩ : ∃ n, at0 + 8 * xn = n := ⟨_, rfl⟩
      rw [hax] at u2
      have HAx := Lib.hid hax
      have hax1 : ax + 8 ≤ S.now.length := by omega
      have hsm := hD.out.small
      rw [HWl.out k] at hsm
      have hax2 : ax ≤ 70000 := by omega
      have HBa := Lib.hid (HBs.out.new hna)
      have hl1 := HWl.out k
      have hl2 := HWs.out k
      have HIm : Hid (∀ W, Fr Nob wa W → Calls Tryz.prog 61 #[.agg #[.int .i64 xn, .int .u64 xl, .slice (some ⟨kb, ko, none⟩) 480 cc], .int .u64 0] W fun e w' => e = .returned (.slice (some ⟨W.heap.size + 1, 0, none⟩) 512 512) ∧ Blk w' (W.heap.size + 1) 5 (bts (imgB ⟨xn, xl, xd⟩ 0)).toArray ∧ Fr Nob W w') := fun W hW =>
        image_any ⟨xn, xl, xd⟩ 0 (some ⟨kb, ko, none⟩) cc W HX3.out (HBa.out.new hW).h (by show xn < _; omega) hx2 (by omega)
      have HIl := Lib.hid (imgB_length ⟨xn, xl, xd⟩ 0 HX3.out)
      obtain ⟨ib, hib⟩ : ∃ b, imgB ⟨xn, xl, xd⟩ 0 = b := ⟨_, rfl⟩
      rw [hib] at HIm HIl
      have HSt2 : Hid (runs S (layOps at0 (l.map (·.1)) (k + 1)) = runs (runs S (layOps at0 (l.map (·.1)) k)).1 (secOps ax ib 8)) := by
        show _ = _
        rw [HSt.out, runs_append, if_pos hC0.out, ← hax, ← hib]
      clear hwa hfa hbx hna hgb hib hax HSt hfb c0 c1 c2 HBs
      have hS : Fr (fun y => Ext R w wr y) wa wa.drew := (Fr.refl _ wa).drew
      refine Rg.begin' (Fr (fun y => Ext R w wr y) wa) [] (by kernel_rfl) ?_
      refine Rg.op 0 (some 14) hS (v := ?v0r4) (hy := fun wz hwz => ?h0r4) (h := ?_)
      case h0r4 => (go_simp; try with_reducible rfl)
      refine Rg.op 1 (some 15) hS (v := ?v1r4) (hy := fun wz hwz => ?h1r4) (h := ?_)
      case h1r4 => (go_simp; try with_reducible rfl)
      refine Rg.op 2 (some 16) hS (v := ?v2r4) (hy := fun wz hwz => ?h2r4) (h := ?_)
      case h2r4 => (go_simp; try with_reducible rfl)
      refine Rg.op 3 (some 17) hS (v := ?v3r4) (hy := fun wz hwz => ?h3r4) (h := ?_)
      case h3r4 => (go_simp; try with_reducible rfl)
      refine Rg.op 4 (some 18) hS (v := ?v4r4) (hy := fun wz hwz => ?h4r4) (h := ?_)
      case h4r4 => (have hb := HFa.out.fr hwz (fun h => hpE h); have cc1 := Blk.cell hb 1; have hpp := Blk.lt hb; simp only [List.getElem?_toArray, List.getElem?_cons_zero, List.getElem?_cons_succ] at cc1; clear hb; go_simp; try with_reducible rfl)
      refine Rg.op 5 (some 19) hS (v := ?v5r4) (hy := fun wz hwz => ?h5r4) (h := ?_)
      case h5r4 => (go_simp; try with_reducible rfl)
      refine Rg.op 6 (some 20) hS (v := ?v6r4) (hy := fun wz hwz => ?h6r4) (h := ?_)
      case h6r4 => (have hb := HBx.out.fr hwz (fun h => hbE h); have cc1 := Blk.cell hb 0; have hpp := Blk.lt hb; simp only [List.getElem?_toArray, List.getElem?_cons_zero, List.getElem?_cons_succ] at cc1; clear hb; go_simp; try with_reducible rfl)
      refine Rg.op 7 (some 21) hS (v := (.int .i64 (8 * (xn : Int)))) (hy := fun wz hwz => ?h7r4) (h := ?_)
      case h7r4 => (have y := u1; go_simp; try with_reducible rfl)
      refine Rg.op 8 (some 22) hS (v := (.int .i64 ax)) (hy := fun wz hwz => ?h8r4) (h := ?_)
      case h8r4 => (have y := u2; go_simp; try with_reducible rfl)
      refine Rg.op 9 (some 23) hS (v := (.agg #[.int .i64 xn, .int .u64 xl, .slice (some ⟨kb, ko, none⟩) 480 cc])) (hy := fun wz hwz => ?h9r4) (h := ?_)
      case h9r4 => (have hb := HBx.out.fr hwz (fun h => hbE h); have cc0 := Blk.cell hb 0; have cc1 := Blk.cell hb 1; have cc2 := Blk.cell hb 2; have hpp := Blk.lt hb; simp only [List.getElem?_toArray, List.getElem?_cons_zero, List.getElem?_cons_succ] at cc0 cc1 cc2; clear hb; go_simp; try with_reducible rfl)
      refine Rg.call 10 (some 24) (hrun := ?h10r4) (hcall := HIm.out _ (Fr.refl _ wa).drew) (h := ?_)
      case h10r4 => (go_simp)
      rintro e wi ⟨rfl, hbi, hfi⟩
      have hSi : Fr (fun y => Ext R w wr y) wa wi := hS.trans (hfi.mono (fun _ _ h => h.elim))
      have HNi : Hid (Fr Nob wa wi) := (Fr.refl _ wa).drew.trans hfi
      have hizx : wi.heap.size ≥ wa.heap.size := HNi.out.size
      obtain ⟨gi, hgi⟩ : ∃ g, wa.drew.heap.size + 1 = g := ⟨_, rfl⟩
      have hgi2 : wr.heap.size ≤ gi := by rw [← hgi]; have := HGb.out; show _ ≤ wa.heap.size + 1; omega
      rw [hgi] at hbi ⊢
      have HBi := Lib.hid hbi
      have HWr := Lib.hid (by have := pgWrite_run ax 8 gi 0 512 ib (HFa.out.fr HNi.out (fun h => h)) hpE (HDa.out.new HNi.out) ⟨bytesIn_of HBi.out, by rw [HIl.out]; omega, fun a ha => by injection ha with ha; subst ha; exact HBi.out.lt⟩ (fun h => by rcases h with h | h; (have := HRl.out gi h; omega); omega) (by rw [HIl.out]) (by omega) (by rw [hl1]; omega) (by omega) (by omega); rw [HIl.out] at this; exact this)
      clear hfi hbi hgi
      refine ⟨_, ?a10r4, rfl, ?b10r4, (fun _ => hSi), ?_⟩
      case b10r4 => (simp only [Act.put, List.setIfInBounds_toArray, List.set_cons_zero, List.set_cons_succ]; rfl)
      refine Rg.call 11 (some 25) (hrun := ?h11r4) (hcall := HWr.out) (h := ?_)
      case h11r4 => (go_simp)
      rintro e wj ⟨rfl, hdj, hfj⟩
      have HDj := Lib.hid hdj
      have HFj := Lib.hid hfj
      have hSj : Fr (fun y => Ext R w wr y) wa wj := hSi.trans hfj.fr
      clear hdj hfj HWr
      refine ⟨_, ?a11r4, rfl, ?b11r4, (fun _ => hSj), ?_⟩
      case b11r4 => (simp only [Act.put, List.setIfInBounds_toArray, List.set_cons_zero, List.set_cons_succ]; rfl)
      refine Rg.op 12 (some 7) hSj (v := ?v12r4) (hy := fun wz hwz => ?h12r4) (h := ?_)
      case h12r4 => (go_simp; try with_reducible rfl)
      refine Rg.done _ (h := ?_)
      have hsj := HFj.out.size
      have hzr := HGb.out
      have hzi := HNi.out.size
      have HDk : Hid (DiskOk (Ext R w wj) wj d (runs S (layOps at0 (l.map (·.1)) (k + 1))).1) := by
        rw [HSt2.out]
        exact HDj.out.more (fun y hy => by
          rcases hy with (hy | hy) | hy
          · exact .inl hy
          · exact .inr ⟨hy.1, by have := HNi.out.size; omega⟩
          · exact .inr ⟨by have := HNi.out.size; omega, hy.2⟩) (fun y hy => by
          rcases hy with hy | hy
          · have := HRl.out y hy; have := HNi.out.size; omega
          · exact hy.2)
      have HFk : Hid (FrD R w wj) := FrD.step (Fr.trans (Fr.trans hF.out (HNa.out.mono (fun _ _ h => h.elim))) (HNi.out.mono (fun _ _ h => h.elim))) (fun i h => h) HFj.out (fun i hi h => by
        rcases h with h | h
        · exact h
        · omega)
      clear HDj HFj hSj hSi hS hC0
      rw [← HSt2.out]
      obtain ⟨cd, hcd⟩ : ∃ cd, (runs S (layOps at0 (l.map (·.1)) (k + 1))).2 = cd := ⟨_, rfl⟩
      rw [hcd]
      have HCd := Lib.hid hcd
      rcases (by have := runs_code S (layOps at0 (l.map (·.1)) (k + 1)); rw [hcd] at this; exact this : cd = 0 ∨ cd = 50) with h0 | h50
      · subst h0
        clear hcd
        go_wp2
        go_roundw
        case rel => exact ⟨k + 1, by omega, by go_num, HDk, HCd.out, HFk⟩
        case measure => simp [intOf]; omega
      · subst h50
        have HE : Hid (runs S (layOps at0 (l.map (·.1)) n ++ [.fl]) = runs S (layOps at0 (l.map (·.1)) (k + 1))) := by
          obtain ⟨r, hr⟩ := layOps_split at0 (l.map (·.1)) (k + 1) n (by omega)
          exact runs_stuck ⟨r ++ [.fl], by rw [hr, List.append_assoc]⟩ (by rw [hcd]; decide)
        clear hcd
        go_wp2
        go_ret
        rw [HE.out, HCd.out]
        exact ⟨rfl, HDk.out, HFk.out⟩
    · obtain rfl : k = n := by omega
      have hfb := H.out.fr hF.out.fr hp
      have c0 := Blk.cell hfb 0
      have fp := Blk.lt hfb
      simp only [List.getElem?_toArray, List.getElem?_cons_zero] at c0
      have HFl := Lib.hid (Flush_any hD.out (by have := HWs.out k; omega))
      have HFc : Hid (runs S (layOps at0 (l.map (·.1)) k ++ [.fl]) = ((runs S (layOps at0 (l.map (·.1)) k)).1.flushed, (runs S (layOps at0 (l.map (·.1)) k)).1.fcode)) := by
        show _ = _
        rw [runs_snoc hC0.out]
        unfold DS.flushed DS.fcode
        split <;> rfl
      clear hfb hC0
      go_wp2_with fail
      refine HFl.out.mono ?_
      rintro e wj ⟨rfl, hdj, hfj⟩
      have hsj := hfj.size
      have hsw := hF.out.size
      have HDk : Hid (DiskOk (Ext R w wj) wj d (runs S (layOps at0 (l.map (·.1)) k ++ [.fl])).1) := by
        show DiskOk _ _ _ _
        rw [HFc.out]
        exact hdj.more (fun y hy => by
          rcases hy with hy | hy
          · exact .inl hy
          · exact .inr ⟨hy.1, by omega⟩) (fun y hy => by
          rcases hy with hy | hy
          · have := HRl.out y hy; omega
          · exact hy.2)
      have HFk : Hid (FrD R w wj) := FrD.step hF.out (fun i h => h) hfj (fun i hi h => by
        rcases h with h | h
        · exact h
        · omega)
      clear hdj hfj
      go_wp2
      go_ret
      rw [HFc.out] at HDk ⊢
      exact ⟨rfl, HDk.out, HFk.out⟩
end Go.Proofs.YtccmmnacejdeoaaGreatDoor

/-
  may: pages that may be written.
-/
namespace Go.Proofs.YtccmmnacejdeoaaGreatDoor
set_option linter.unusedSimpArgs false
set_option linter.unusedVariables false
open Go.RowKit

theorem map_fr {H : Type} {P : Program} {k : TypeId} {R : Value → Option (DataW H × List MemPlace)} {b n : Nat} {D : DataW H} {w w' : World} {F : Nat → Prop} (h : w.ownsMap P k R b n D) (hf : Fr F w w') (hb : ¬ F b) : w'.ownsMap P k R b n D := by
  obtain ⟨es, clock, hh, r⟩ := h
  exact ⟨es, clock, (hf.block b (by have := (Array.getElem?_eq_some_iff.1 hh).1; exact this) hb).trans hh, r⟩
theorem fr_of_grown {w w' : World} {b : Nat} (h : w.grownBy w' (some b)) : Fr (fun x => x = b) w w' := Fr.grown (Fr.refl _ w) h (fun k e => .inr (by injection e with e; exact e.symm))

set_option maxHeartbeats 3200000 in
set_option maxRecDepth 100000 in
theorem may_ok {R : Nat → Prop} {w : World} {p d at0 pages turn : Nat} (A : Option Addr) (c : Nat) (l : List (PgV × Value)) (h : FileAt w p d at0 pages turn) (hl : PgsIn R w A l) (hn : l.length ≤ 8) (hpg : pages ≤ 5000) (hno : ∀ x ∈ l, x.1.no < pages)
    (hdis : ∀ (i j : Nat) x y, l[i]? = some x → l[j]? = some y → x.1.no = y.1.no → i = j) :
    Calls Tryz.prog 77 #[.pointer (some ⟨p, 0, none⟩), .slice A l.length c] w fun e w' => e = .returned (.int .i64 0) ∧ Fr Nob w w' := by
  have hmm := @run_makeMap Tryz.prog
  have qP := len_Pg
  have qB := len_by
  have HL := Lib.hid hl
  have HNo := Lib.hid hno
  have HDis := Lib.hid hdis
  have H := Lib.hid h
  have hp0 := h.lt
  obtain ⟨M, hM⟩ : ∃ m, w.heap.size = m := ⟨_, rfl⟩
  have HM := Lib.hid hM
  have HMap0 : Hid ((w.alloc (.map #[] 0)).ownsMap (H := Unit) Tryz.prog 3 (plainElem Tryz.prog 4) M 0 (seenD [])) := by rw [← hM]; exact World.ownsMap_made w _ _ _
  have HF0 : Hid (Fr Nob w (w.alloc (.map #[] 0))) := (Fr.refl _ w).alloc _
  obtain ⟨n, hnn⟩ : ∃ n, l.length = n := ⟨_, rfl⟩
  have HN := Lib.hid hnn
  rw [hnn] at hn ⊢
  have t0 : ¬ (n : Int) > 8 := by omega
  have t1 : ¬ (8 : Int) < (n : Int) := by omega
  clear h hl hno hdis hnn
  go_enter Tryz.func77, Tryz.ntmps77
  go_wp2
  try (rw [qP]; go_wp2)
  clear hM
  go_loopw [7, 14] (fun _ iv wr => ∃ k : Nat, k ≤ n ∧ iv = .int .i64 k ∧ Hid (wr.ownsMap (H := Unit) Tryz.prog 3 (plainElem Tryz.prog 4) M k (seenD ((l.take k).map fun x => (x.1.no : Int)))) ∧ Hid (Fr Nob w wr)) (fun _ iv _ => n - (intOf iv).toNat)
  case atStart => exact ⟨0, by omega, rfl, HMap0.out, HF0.out⟩
  case round =>
    clear HMap0 HF0
    obtain ⟨k, hk, rfl, hmp, hF⟩ := hrel
    by_cases hlt : k < n
    · have hkl : k < l.length := by rw [HN.out]; exact hlt
      obtain ⟨x, hx⟩ : ∃ x, l[k]? = some x := ⟨_, List.getElem?_eq_getElem hkl⟩
      have hin := HL.out.fr hF.out (fun b _ h => h.elim)
      obtain ⟨g, rfl, hgR, hcs⟩ := hin (by omega)
      obtain ⟨c0, c1, c2, kb, ko, cc, hv, hbs, hkb⟩ := hcs k x hx
      have hxno := HNo.out x (List.mem_of_getElem? hx)
      have HSn : Hid (seenD ((l.take (k + 1)).map fun x => (x.1.no : Int)) = (seenD ((l.take k).map fun x => (x.1.no : Int))).put (.int .i64 (x.1.no : Int)) (.lit (.bool true))) := by
        show _ = _
        rw [← seenD_snoc, List.take_add_one, hx, List.map_append]; rfl
      have HNin : Hid (¬ ((x.1.no : Nat) : Int) ∈ (l.take k).map fun x => (x.1.no : Int)) := by
        intro hm
        obtain ⟨y, hy, he⟩ := List.mem_map.1 hm
        obtain ⟨i, hi⟩ := List.mem_iff_getElem?.1 hy
        have hik : i < k := by have := (List.getElem?_eq_some_iff.1 hi).1; rw [List.length_take] at this; omega
        rw [List.getElem?_take, if_pos hik] at hi
        have := HDis.out i k y x hi hx (by omega)
        omega
      have hcl := cell_lt c0
      rw [hv] at c2
      obtain ⟨⟨xn, xl, xd⟩, xv⟩ := x
      dsimp only at c0 c1 c2 hxno HSn HNin
      have HMp := Lib.hid hmp.out
      have HWf := Lib.hid (wf_i64 (x := (xn : Int)) (by omega) (by omega))
      clear hcs hin hbs hv hx hmp hkl
      go_wp2
      have hfb : FileAt wr p d at0 pages turn := H.out.fr hF.out (fun h => h)
      have hfa : FileAt (wr.alloc (.cells #[.int .i64 xn, .int .u64 xl, .slice (some ⟨kb, ko, none⟩) 480 cc] 40)) p d at0 pages turn := Blk.alloc hfb _
      have hbx : Blk (wr.alloc (.cells #[.int .i64 xn, .int .u64 xl, .slice (some ⟨kb, ko, none⟩) 480 cc] 40)) wr.heap.size 40 #[.int .i64 xn, .int .u64 xl, .slice (some ⟨kb, ko, none⟩) 480 cc] := Blk.new _ _ _
      have hma := map_fr HMp.out ((Fr.refl Nob wr).alloc (.cells #[.int .i64 xn, .int .u64 xl, .slice (some ⟨kb, ko, none⟩) 480 cc] 40)) (fun h => h)
      have hfw : Fr Nob w (wr.alloc (.cells #[.int .i64 xn, .int .u64 xl, .slice (some ⟨kb, ko, none⟩) 480 cc] 40)) := hF.out.alloc _
      obtain ⟨wa, hwa⟩ : ∃ W, wr.alloc (.cells #[.int .i64 xn, .int .u64 xl, .slice (some ⟨kb, ko, none⟩) 480 cc] 40) = W := ⟨_, rfl⟩
      rw [hwa] at hfa hbx hma hfw ⊢
      obtain ⟨gb, hgb⟩ : ∃ g, wr.heap.size = g := ⟨_, rfl⟩
      rw [hgb] at hbx ⊢
      have HFa := Lib.hid hfa
      have HBx := Lib.hid hbx
      have HMa := Lib.hid hma
      have HFw := Lib.hid hfw
      clear hwa hgb hfa hbx hma hfw hfb HMp hF c0 c1 c2
      have hS : Fr Nob wa wa.drew := (Fr.refl _ wa).drew
      refine Rg.begin' (Fr Nob wa) [] (by kernel_rfl) ?_
      refine Rg.op 0 (some 18) hS (v := ?v0r7) (hy := fun wz hwz => ?h0r7) (h := ?_)
      case h0r7 => (go_simp; try with_reducible rfl)
      refine Rg.op 1 (some 19) hS (v := ?v1r7) (hy := fun wz hwz => ?h1r7) (h := ?_)
      case h1r7 => (have hb := HBx.out.fr hwz (fun h => h); have cc1 := Blk.cell hb 0; have hpp := Blk.lt hb; simp only [List.getElem?_toArray, List.getElem?_cons_zero, List.getElem?_cons_succ] at cc1; clear hb; go_simp; try with_reducible rfl)
      refine Rg.op 2 (some 20) hS (v := (.bool false)) (hy := fun wz hwz => ?h2r7) (h := ?_)
      case h2r7 => (have y : ¬ (xn : Int) < 0 := (by omega); go_simp; try with_reducible rfl)
      refine Rg.op 3 (some 21) hS (v := ?v3r7) (hy := fun wz hwz => ?h3r7) (h := ?_)
      case h3r7 => (go_simp; try with_reducible rfl)
      refine Rg.op 4 (some 22) hS (v := ?v4r7) (hy := fun wz hwz => ?h4r7) (h := ?_)
      case h4r7 => (go_simp; try with_reducible rfl)
      refine Rg.op 5 (some 23) hS (v := ?v5r7) (hy := fun wz hwz => ?h5r7) (h := ?_)
      case h5r7 => (have hb := HBx.out.fr hwz (fun h => h); have cc1 := Blk.cell hb 0; have hpp := Blk.lt hb; simp only [List.getElem?_toArray, List.getElem?_cons_zero, List.getElem?_cons_succ] at cc1; clear hb; go_simp; try with_reducible rfl)
      refine Rg.op 6 (some 24) hS (v := ?v6r7) (hy := fun wz hwz => ?h6r7) (h := ?_)
      case h6r7 => (go_simp; try with_reducible rfl)
      refine Rg.op 7 (some 25) hS (v := ?v7r7) (hy := fun wz hwz => ?h7r7) (h := ?_)
      case h7r7 => (go_simp; try with_reducible rfl)
      refine Rg.op 8 (some 26) hS (v := ?v8r7) (hy := fun wz hwz => ?h8r7) (h := ?_)
      case h8r7 => (go_simp; try with_reducible rfl)
      refine Rg.op 9 (some 27) hS (v := ?v9r7) (hy := fun wz hwz => ?h9r7) (h := ?_)
      case h9r7 => (have hb := HFa.out.fr hwz (fun h => h); have cc1 := Blk.cell hb 2; have hpp := Blk.lt hb; simp only [List.getElem?_toArray, List.getElem?_cons_zero, List.getElem?_cons_succ] at cc1; clear hb; go_simp; try with_reducible rfl)
      refine Rg.op 10 (some 28) hS (v := (.bool false)) (hy := fun wz hwz => ?h10r7) (h := ?_)
      case h10r7 => (have y : ¬ (xn : Int) ≥ (pages : Int) := (by omega); have y2 : ¬ (pages : Int) ≤ (xn : Int) := (by omega); go_simp; try with_reducible rfl)
      refine Rg.op 11 (some 29) hS (v := ?v11r7) (hy := fun wz hwz => ?h11r7) (h := ?_)
      case h11r7 => (go_simp; try with_reducible rfl)
      refine Rg.op 12 (some 30) hS (v := ?v12r7) (hy := fun wz hwz => ?h12r7) (h := ?_)
      case h12r7 => (go_simp; try with_reducible rfl)
      refine Rg.op 13 (some 31) hS (v := ?v13r7) (hy := fun wz hwz => ?h13r7) (h := ?_)
      case h13r7 => (go_simp; try with_reducible rfl)
      refine Rg.op 14 (some 32) hS (v := ?v14r7) (hy := fun wz hwz => ?h14r7) (h := ?_)
      case h14r7 => (go_simp; try with_reducible rfl)
      refine Rg.op 15 (some 33) hS (v := ?v15r7) (hy := fun wz hwz => ?h15r7) (h := ?_)
      case h15r7 => (have hb := HBx.out.fr hwz (fun h => h); have cc1 := Blk.cell hb 0; have hpp := Blk.lt hb; simp only [List.getElem?_toArray, List.getElem?_cons_zero, List.getElem?_cons_succ] at cc1; clear hb; go_simp; try with_reducible rfl)
      refine Rg.op 16 (some 34) hS (v := (.bool false)) (hy := fun wz hwz => ?h16r7) (h := ?_)
      case h16r7 => (have y := lookup_seen (map_fr HMa.out hwz (fun h => h)) (xn : Int) HWf.out; rw [decide_eq_false HNin.out] at y; go_simp; try with_reducible rfl)
      refine Rg.op 17 (some 35) hS (v := ?v17r7) (hy := fun wz hwz => ?h17r7) (h := ?_)
      case h17r7 => (go_simp; try with_reducible rfl)
      refine Rg.op 18 (some 36) hS (v := ?v18r7) (hy := fun wz hwz => ?h18r7) (h := ?_)
      case h18r7 => (go_simp; try with_reducible rfl)
      refine Rg.op 19 (some 37) hS (v := ?v19r7) (hy := fun wz hwz => ?h19r7) (h := ?_)
      case h19r7 => (go_simp; try with_reducible rfl)
      refine Rg.op 20 (some 38) hS (v := ?v20r7) (hy := fun wz hwz => ?h20r7) (h := ?_)
      case h20r7 => (have hb := HBx.out.fr hwz (fun h => h); have cc1 := Blk.cell hb 2; have hpp := Blk.lt hb; simp only [List.getElem?_toArray, List.getElem?_cons_zero, List.getElem?_cons_succ] at cc1; clear hb; go_simp; try with_reducible rfl)
      refine Rg.op 21 (some 39) hS (v := ?v21r7) (hy := fun wz hwz => ?h21r7) (h := ?_)
      case h21r7 => (have y := qB wz; go_simp; try with_reducible rfl)
      refine Rg.op 22 (some 40) hS (v := (.bool false)) (hy := fun wz hwz => ?h22r7) (h := ?_)
      case h22r7 => (go_simp; try with_reducible rfl)
      refine Rg.op 23 (some 41) hS (v := ?v23r7) (hy := fun wz hwz => ?h23r7) (h := ?_)
      case h23r7 => (go_simp; try with_reducible rfl)
      refine Rg.done _ (h := ?_)
      have HFd : Hid (Fr Nob w wa.drew) := HFw.out.drew
      have HMd : Hid (wa.drew.ownsMap (H := Unit) Tryz.prog 3 (plainElem Tryz.prog 4) M k (seenD ((l.take k).map fun x => (x.1.no : Int)))) := map_fr HMa.out hS (fun h => h)
      have hbd := HBx.out.fr hS (fun h => h)
      have cc1 := Blk.cell hbd 0
      have hpp := Blk.lt hbd
      simp only [List.getElem?_toArray, List.getElem?_cons_zero, List.getElem?_cons_succ] at cc1
      obtain ⟨wd, hwd⟩ : ∃ W, wa.drew = W := ⟨_, rfl⟩
      rw [hwd] at HFd HMd hpp cc1 ⊢
      clear hbd hS HBx HFa HMa HFw hwd
      go_wp2_with (at_mapUpdate; refine wpList_mapUpdate_own _ rfl _ _ _ 120 rfl 3 4 (Maps.int_keyed Tryz.underlying3) Tryz.underlying120 _ M k _ rfl HMd.out (by unfold maxLen; omega) _ _ _ rfl rfl (Maps.keyOf_int_mk Tryz.underlying3 HWf.out) _ [] (plainElem_bool Tryz.underlying4 true) ?_; intro w1 hown1 hgrow1; have HO1 := Lib.hid hown1; have HG1 := Lib.hid hgrow1; clear hown1 hgrow1)
      go_roundw
      case rel =>
        refine ⟨k + 1, by omega, by go_num, ?_, ?_⟩
        · have := HO1.out
          rw [← HSn.out] at this
          exact this
        · exact HFd.out.step (fr_of_grown HG1.out) (fun i hi h => by have := HM.out; omega)
      case measure => simp [intOf]; omega
    · obtain rfl : k = n := by omega
      go_wp2
      go_ret
      exact ⟨rfl, hF.out⟩
end Go.Proofs.YtccmmnacejdeoaaGreatDoor
