/-
  PgWrite, PgState, in one text.
-/
import Derived.Test.YtccmmnacejdeoaaGreatDoorMg19
import Derived.Test.YtccmmnacejdeoaaGreatDoorMg18
/-
  Write: pages are written, whatever the fuse.
-/
namespace Go.Proofs.YtccmmnacejdeoaaGreatDoor
set_option linter.unusedSimpArgs false
set_option linter.unusedVariables false
open Go.RowKit

def plcOps (sp t : Nat) (l : List PgV) : Nat → List WOp
  | 0 => []
  | k + 1 => match l[k]? with
    | some x => plcOps sp t l k ++ secOps (sp + 1 + 8 * k) (imgB x t) 8
    | none => plcOps sp t l k
theorem plcOps_some {sp t : Nat} {l : List PgV} {k : Nat} {x : PgV} (h : l[k]? = some x) : plcOps sp t l (k + 1) = plcOps sp t l k ++ secOps (sp + 1 + 8 * k) (imgB x t) 8 := by
  conv => lhs; unfold plcOps
  rw [h]
theorem plcOps_none {sp t : Nat} {l : List PgV} {k : Nat} (h : l[k]? = none) : plcOps sp t l (k + 1) = plcOps sp t l k := by
  conv => lhs; unfold plcOps
  rw [h]
theorem plcOps_length (sp t : Nat) (l : List PgV) : ∀ k, (plcOps sp t l k).length ≤ 8 * k
  | 0 => Nat.le_refl _
  | k + 1 => by
    have := plcOps_length sp t l k
    unfold plcOps
    split
    · rw [List.length_append, secOps_length]; omega
    · omega
theorem plcOps_split (sp t : Nat) (l : List PgV) (j : Nat) : ∀ n, j ≤ n → ∃ r, plcOps sp t l n = plcOps sp t l j ++ r
  | 0, h => by obtain rfl : j = 0 := by omega
               exact ⟨[], (List.append_nil _).symm⟩
  | n + 1, h => by
    by_cases e : j = n + 1
    · subst e; exact ⟨[], (List.append_nil _).symm⟩
    · obtain ⟨r, hr⟩ := plcOps_split sp t l j n (by omega)
      cases hx : l[n]? with
      | some x => exact ⟨r ++ secOps (sp + 1 + 8 * n) (imgB x t) 8, (plcOps_some hx).trans (by rw [hr, List.append_assoc])⟩
      | none => exact ⟨r, (plcOps_none hx).trans hr⟩
/-- What Write does to the disk. -/
def writeOps (at0 pages t : Nat) (l : List PgV) : List WOp :=
  ((plcOps (at0 + 8 * pages) t l l.length ++ secOps (at0 + 8 * pages) (lotB t l.length) 1) ++ [.fl]) ++ (layOps at0 l l.length ++ [.fl])
theorem DiskOk.ext' {R : Nat → Prop} {w w' : World} {p : Nat} {S : DS} (hd : DiskOk R w' p S) (hf : w.heap.size ≤ w'.heap.size) (hl : ∀ b, R b → b < w.heap.size) : DiskOk (Ext R w w') w' p S :=
  hd.more (fun b hb => .inl hb) (fun b hb => by
    rcases hb with hb | hb
    · have := hl b hb; omega
    · exact hb.2)
theorem PgsIn.upto {R : Nat → Prop} {w w' : World} {p : Nat} {A : Option Addr} {l : List (PgV × Value)} (h : PgsIn (fun b => R b ∨ b = p) w A l) (hf : Fr (fun b => Mut R w b ∨ b = p) w w') : PgsIn (fun b => Ext R w w' b ∨ b = p) w' A l := by
  refine PgsIn.fr (h.less (R' := fun b => Ext R w w' b ∨ b = p) (fun b hb hr => ?_)) hf (fun b hb hF => ?_)
  · rcases hr with (hr | hr) | hr
    · exact .inl hr
    · omega
    · exact .inr hr
  · rcases hF with hF | hF
    · exact .inl (.inl hF.1)
    · exact .inr hF
theorem Ext.step {R : Nat → Prop} {a b c : World} (h1 : a.heap.size ≤ b.heap.size) (h2 : b.heap.size ≤ c.heap.size) {x : Nat} (h : Ext (Ext R a b) b c x) : Ext R a c x := by
  rcases h with (h | h) | h
  · exact .inl h
  · exact .inr ⟨h.1, by omega⟩
  · exact .inr ⟨by omega, h.2⟩
theorem Ext.step' {R : Nat → Prop} {a b b' c : World} (h1 : a.heap.size ≤ b.heap.size) (h2 : b.heap.size ≤ b'.heap.size) (h3 : b'.heap.size ≤ c.heap.size) {x : Nat} (h : Ext (Ext R a b) b' c x) : Ext R a c x := by
  rcases h with (h | h) | h
  · exact .inl h
  · exact .inr ⟨h.1, by omega⟩
  · exact .inr ⟨by omega, h.2⟩
theorem Ext.lt {R : Nat → Prop} {a c : World} (hr : ∀ x, R x → x < a.heap.size) (h1 : a.heap.size ≤ c.heap.size) {x : Nat} (h : Ext R a c x) : x < c.heap.size := by
  rcases h with h | h
  · have := hr x h; omega
  · exact h.2
theorem FrD.next {R : Nat → Prop} {a b b' c : World} (h : FrD R a b) (k : Fr Nob b b') (m : FrD (Ext R a b) b' c) : FrD R a c :=
  FrD.step (F := Mut R a) (Fr.trans h (k.mono (fun _ _ h => h.elim))) (fun i h => h) m (fun i hi h => by
    rcases h with h | h
    · exact h
    · omega)

set_option maxHeartbeats 6400000 in
set_option maxRecDepth 100000 in
theorem pgWriteAll_run {R : Nat → Prop} {w : World} {p d at0 pages turn : Nat} {S : DS} (A : Option Addr) (c : Nat) (l : List (PgV × Value)) (h : FileAt w p d at0 pages turn) (hp : ¬ R p) (hd : DiskOk R w d S) (hl : PgsIn (fun b => R b ∨ b = p) w A l) (hok : ∀ x ∈ l, x.1.Ok ∧ x.1.no < pages) (hn0 : 0 < l.length) (hn : l.length ≤ 8)
    (hdis : ∀ (i j : Nat) x y, l[i]? = some x → l[j]? = some y → x.1.no = y.1.no → i = j) (hat : at0 + 8 * pages + 80 ≤ S.now.length) (hat2 : at0 ≤ 60000) (hpg : pages ≤ 5000) (hwl : S.waits.length ≤ 800000) (htu : turn < 4611686018427387904) :
    Calls Tryz.prog 51 #[.pointer (some ⟨p, 0, none⟩), .slice A l.length c] w fun e w' => e = .returned (.int .i64 (runs S (writeOps at0 pages (turn + 1) (l.map (·.1)))).2) ∧ DiskOk (Ext R w w') w' d (runs S (writeOps at0 pages (turn + 1) (l.map (·.1)))).1 ∧ (∃ t', FileAt w' p d at0 pages t' ∧ ((runs S (writeOps at0 pages (turn + 1) (l.map (·.1)))).2 = 0 → t' = turn + 1)) ∧ Fr (fun b => Mut R w b ∨ b = p) w w' := by
  have qP := len_Pg
  have HMay := Lib.hid (may_ok A c l h hl hn hpg (fun x hx => (hok x hx).2) hdis)
  have H := Lib.hid h
  have hp0 := h.lt
  have HLu : Hid (∀ W, Fr (fun b => Mut R w b ∨ b = p) w W → PgsIn (fun b => Ext R w W b ∨ b = p) W A l) := fun W hW => hl.upto hW
  have HOk := Lib.hid hok
  have HD := Lib.hid hd
  have HRl : Hid (∀ x, R x → x < w.heap.size) := fun x hx => hd.lt hx
  have hsm := hd.small
  have c3 := h.cell 3
  simp only [List.getElem?_toArray, List.getElem?_cons_zero, List.getElem?_cons_succ] at c3
  obtain ⟨t, htt⟩ : ∃ t, turn + 1 = t := ⟨_, rfl⟩
  have ut : IntKind.u64.wrap ((turn : Int) + 1) = (t : Int) := by rw [IntKind.wrap_u64]; omega
  have ht64 : t < 18446744073709551616 := by omega
  obtain ⟨sp, hsp⟩ : ∃ sp, at0 + 8 * pages = sp := ⟨_, rfl⟩
  have HSp := Lib.hid hsp
  have HT := Lib.hid htt
  have hml : (l.map (·.1)).length = l.length := List.length_map _
  obtain ⟨n, hnn⟩ : ∃ n, l.length = n := ⟨_, rfl⟩
  have HN := Lib.hid hnn
  have HOps : Hid (writeOps at0 pages (turn + 1) (l.map (·.1)) = ((plcOps sp t (l.map (·.1)) n ++ secOps sp (lotB t n) 1) ++ [.fl]) ++ (layOps at0 (l.map (·.1)) n ++ [.fl])) := by
    show _ = _
    unfold writeOps
    rw [hml, hnn, htt, hsp]
  have HSpare : Hid (∀ W tt, FileAt W p d at0 pages tt → Calls Tryz.prog 63 #[.pointer (some ⟨p, 0, none⟩)] W fun e w' => e = .returned (.int .i64 sp) ∧ Fr Nob W w') := by
    intro W tt ht
    have := spare_any ht (by omega) (by omega)
    rwa [hsp] at this
  have HWl : Hid (∀ k, (runs S (plcOps sp t (l.map (·.1)) k)).1.now.length = S.now.length) := fun k => runs_length S _
  have HWs : Hid (∀ k, (runs S (plcOps sp t (l.map (·.1)) k)).1.waits.length ≤ S.waits.length + 8 * k) := fun k => runs_wlen (plcOps_length sp t _ k)
  obtain ⟨O2, hO2⟩ : ∃ o, plcOps sp t (l.map (·.1)) n ++ secOps sp (lotB t n) 1 = o := ⟨_, rfl⟩
  obtain ⟨O3, hO3⟩ : ∃ o, O2 ++ [WOp.fl] = o := ⟨_, rfl⟩
  obtain ⟨OL, hOL⟩ : ∃ o, layOps at0 (l.map (·.1)) n ++ [WOp.fl] = o := ⟨_, rfl⟩
  obtain ⟨OA, hOA⟩ : ∃ o, O3 ++ OL = o := ⟨_, rfl⟩
  rw [HOps.out, htt, hO2, hO3, hOL, hOA]
  have HO2 := Lib.hid hO2
  have HO3 := Lib.hid hO3
  have HOL := Lib.hid hOL
  have HOA := Lib.hid hOA
  clear hO2 hO3 hOL hOA HOps
  rw [hnn] at hn hn0 HMay ⊢
  have hspn : sp + 80 ≤ S.now.length := by omega
  have hsp2 : sp ≤ 65456 := by omega
  have h0n : ¬ (n : Int) = 0 := by omega
  have hbn : ((n : Int) == 0) = false := by rw [beq_eq_false_iff_ne]; omega
  clear h hl hok hd hdis hnn hml htt hsp
  go_enter Tryz.func51, Tryz.ntmps51
  go_wp2_with fail
  refine HMay.out.mono ?_
  rintro e wm ⟨rfl, hfm⟩
  have HFm := Lib.hid hfm
  have hbm := H.out.fr hfm (fun h => h)
  have c3 := Blk.cell hbm 3
  have hpm := Blk.lt hbm
  simp only [List.getElem?_toArray, List.getElem?_cons_zero, List.getElem?_cons_succ] at c3
  have HDm := Lib.hid (HD.out.new hfm)
  have HD0 : Hid (DiskOk (Ext R w wm) wm d (runs S (plcOps sp t (l.map (·.1)) 0)).1) := HDm.out.ext' hfm.size HRl.out
  have HFm0 : Hid (FrD R w wm) := Fr.mono hfm (fun _ _ h => h.elim)
  clear hfm hbm HMay
  go_wp2
  try (rw [qP]; go_wp2)
  try (rw [qP]; go_wp2)
  clear c3
  go_loopw [7, 8, 9, 30] (fun _ _ _ iv wr => ∃ k : Nat, k ≤ n ∧ iv = .int .i64 k ∧ Hid (DiskOk (Ext R w wr) wr d (runs S (plcOps sp t (l.map (·.1)) k)).1) ∧ Hid ((runs S (plcOps sp t (l.map (·.1)) k)).2 = 0) ∧ Hid (FrD R w wr)) (fun _ _ _ iv _ => n - (intOf iv).toNat)
  case atStart => exact ⟨0, by omega, rfl, HD0, rfl, HFm0.out⟩
  case round =>
    clear HD0 HFm0 HDm HFm hpm
    obtain ⟨k, hk, rfl, hD, hC0, hF⟩ := hrel
    by_cases hlt : k < n
    · have hkl : k < l.length := by rw [HN.out]; exact hlt
      obtain ⟨x, hx⟩ : ∃ x, l[k]? = some x := ⟨_, List.getElem?_eq_getElem hkl⟩
      have hin := HLu.out wr (hF.out.mono (fun _ _ h => .inl h))
      obtain ⟨g, rfl, hgR, hcs⟩ := hin (by omega)
      obtain ⟨c0, c1, c2, kb, ko, cc, hv, hbs, hkb⟩ := hcs k x hx
      have hxok := HOk.out x (List.mem_of_getElem? hx)
      have HSt : Hid (plcOps sp t (l.map (·.1)) (k + 1) = plcOps sp t (l.map (·.1)) k ++ secOps (sp + 1 + 8 * k) (imgB x.1 t) 8) := plcOps_some (by rw [List.getElem?_map, hx]; rfl)
      have hcl := cell_lt c0
      rw [hv] at c2
      obtain ⟨⟨xn, xl, xd⟩, xv⟩ := x
      dsimp only at c0 c1 c2 hbs hxok HSt
      have HBs := Lib.hid hbs
      have hx1 := hxok.1.no
      have hx2 := hxok.1.lsn
      have hx3 := hxok.1.d
      dsimp only at hx1 hx2 hx3
      have HX3 := Lib.hid hx3
      clear hcs hin hbs hv hxok hx hx3 hkl
      go_wp2
      have hfb : FileAt wr p d at0 pages turn := H.out.fr hF.out.fr hp
      have hfa : FileAt (wr.alloc (.cells #[.int .i64 xn, .int .u64 xl, .slice (some ⟨kb, ko, none⟩) 480 cc] 40)) p d at0 pages turn := Blk.alloc hfb _
      have hbx : Blk (wr.alloc (.cells #[.int .i64 xn, .int .u64 xl, .slice (some ⟨kb, ko, none⟩) 480 cc] 40)) wr.heap.size 40 #[.int .i64 xn, .int .u64 xl, .slice (some ⟨kb, ko, none⟩) 480 cc] := Blk.new _ _ _
      have hna : Fr Nob wr (wr.alloc (.cells #[.int .i64 xn, .int .u64 xl, .slice (some ⟨kb, ko, none⟩) 480 cc] 40)) := (Fr.refl _ wr).alloc _
      have hsza : (wr.alloc (.cells #[.int .i64 xn, .int .u64 xl, .slice (some ⟨kb, ko, none⟩) 480 cc] 40)).heap.size = wr.heap.size + 1 := World.size_alloc ..
      obtain ⟨wa, hwa⟩ : ∃ W, wr.alloc (.cells #[.int .i64 xn, .int .u64 xl, .slice (some ⟨kb, ko, none⟩) 480 cc] 40) = W := ⟨_, rfl⟩
      rw [hwa] at hfa hbx hna hsza ⊢
      obtain ⟨gb, hgb⟩ : ∃ g, wr.heap.size = g := ⟨_, rfl⟩
      have HGb := Lib.hid hgb
      rw [hgb] at hbx hsza ⊢
      have hFs := hF.out.size
      have hpE : ¬ Ext R w wr p := fun h => by rcases h with h | h; exact hp h; omega
      have hbE : ¬ Ext R w wr gb := fun h => by
        rcases h with h | h
        · have := HRl.out gb h; omega
        · omega
      have HFa := Lib.hid hfa
      have HBx := Lib.hid hbx
      have HNa := Lib.hid hna
      have HDa := Lib.hid (hD.out.new hna)
      have u1 : IntKind.i64.wrap ((sp : Int) + 1) = (sp : Int) + 1 := by rw [IntKind.wrap_i64]; omega
      have u2 : IntKind.i64.wrap (8 * (k : Int)) = 8 * (k : Int) := by rw [IntKind.wrap_i64]; omega
      have u3 : IntKind.i64.wrap ((sp : Int) + 1 + 8 * (k : Int)) = ((sp + 1 + 8 * k : Nat) : Int) := by rw [IntKind.wrap_i64]; omega
      obtain ⟨ax, hax⟩ : ∃ n, sp + 1 + 8 * k = n := ⟨_, rfl⟩
      rw [hax] at u3
      have HBa := Lib.hid (HBs.out.new hna)
      have hl1 := HWl.out k
      have hl2 := HWs.out k
      have hax1 : ax + 8 ≤ S.now.length := by omega
      have hax2 : ax ≤ 70000 := by omega
      have HIm : Hid (∀ W, Fr Nob wa W → Calls Tryz.prog 61 #[.agg #[.int .i64 xn, .int .u64 xl, .slice (some ⟨kb, ko, none⟩) 480 cc], .int .u64 t] W fun e w' => e = .returned (.slice (some ⟨W.heap.size + 1, 0, none⟩) 512 512) ∧ Blk w' (W.heap.size + 1) 5 (bts (imgB ⟨xn, xl, xd⟩ t)).toArray ∧ Fr Nob W w') := fun W hW =>
        image_any ⟨xn, xl, xd⟩ t (some ⟨kb, ko, none⟩) cc W HX3.out (HBa.out.new hW).h (by show xn < _; omega) hx2 ht64
      have HIl := Lib.hid (imgB_length ⟨xn, xl, xd⟩ t HX3.out)
      obtain ⟨ib, hib⟩ : ∃ b, imgB ⟨xn, xl, xd⟩ t = b := ⟨_, rfl⟩
      rw [hib] at HIm HIl HSt
      have HSt2 : Hid (runs S (plcOps sp t (l.map (·.1)) (k + 1)) = runs (runs S (plcOps sp t (l.map (·.1)) k)).1 (secOps ax ib 8)) := by
        show _ = _
        rw [HSt.out, runs_append, if_pos hC0.out, ← hax]
      clear hwa hfa hbx hna hgb hib hax HSt hfb c0 c1 c2 HBs
      have hS : Fr (fun y => Ext R w wr y) wa wa.drew := (Fr.refl _ wa).drew
      have hSn : Fr Nob wa wa.drew := (Fr.refl _ wa).drew
      refine Rg.begin' (Fr (fun y => Ext R w wr y) wa) [] (by kernel_rfl) ?_
      refine Rg.op 0 (some 35) hS (v := ?v0r8) (hy := fun wz hwz => ?h0r8) (h := ?_)
      case h0r8 => (go_simp; try with_reducible rfl)
      refine Rg.op 1 (some 36) hS (v := ?v1r8) (hy := fun wz hwz => ?h1r8) (h := ?_)
      case h1r8 => (go_simp; try with_reducible rfl)
      refine Rg.op 4 (some 39) hS (v := ?v4r8) (hy := fun wz hwz => ?h4r8) (h := ?_)
      case h4r8 => (go_simp; try with_reducible rfl)
      refine Rg.op 5 (some 40) hS (v := (.int .i64 (8 * (k : Int)))) (hy := fun wz hwz => ?h5r8) (h := ?_)
      case h5r8 => (have y := u2; go_simp; try with_reducible rfl)
      refine Rg.op 7 (some 42) hS (v := (.agg #[.int .i64 xn, .int .u64 xl, .slice (some ⟨kb, ko, none⟩) 480 cc])) (hy := fun wz hwz => ?h7r8) (h := ?_)
      case h7r8 => (have hb := HBx.out.fr hwz (fun h => hbE h); have cc0 := Blk.cell hb 0; have cc1 := Blk.cell hb 1; have cc2 := Blk.cell hb 2; have hpp := Blk.lt hb; simp only [List.getElem?_toArray, List.getElem?_cons_zero, List.getElem?_cons_succ] at cc0 cc1 cc2; clear hb; go_simp; try with_reducible rfl)
      refine Rg.op 8 (some 43) hS (v := ?v8r8) (hy := fun wz hwz => ?h8r8) (h := ?_)
      case h8r8 => (go_simp; try with_reducible rfl)
      refine Rg.call 2 (some 37) (hrun := ?h2r8) (hcall := HSpare.out _ _ (HFa.out.fr hSn (fun h => h))) (h := ?_)
      case h2r8 => (go_simp)
      rintro e ws ⟨rfl, hfs⟩
      have HNs : Hid (Fr Nob wa ws) := hSn.trans hfs
      have hSs : Fr (fun y => Ext R w wr y) wa ws := HNs.out.mono (fun _ _ h => h.elim)
      clear hfs
      refine ⟨_, ?a2r8, rfl, ?b2r8, (fun _ => hSs), ?_⟩
      case b2r8 => (simp only [Act.put, List.setIfInBounds_toArray, List.set_cons_zero, List.set_cons_succ]; rfl)
      refine Rg.op 3 (some 38) hSs (v := (.int .i64 ((sp : Int) + 1))) (hy := fun wz hwz => ?h3r8) (h := ?_)
      case h3r8 => (have y := u1; go_simp; try with_reducible rfl)
      refine Rg.op 6 (some 41) hSs (v := (.int .i64 ax)) (hy := fun wz hwz => ?h6r8) (h := ?_)
      case h6r8 => (have y := u3; go_simp; try with_reducible rfl)
      refine Rg.call 9 (some 44) (hrun := ?h9r8) (hcall := HIm.out _ HNs.out) (h := ?_)
      case h9r8 => (go_simp)
      rintro e wi ⟨rfl, hbi, hfi⟩
      have hSi : Fr (fun y => Ext R w wr y) wa wi := hSs.trans (hfi.mono (fun _ _ h => h.elim))
      have HNi : Hid (Fr Nob wa wi) := HNs.out.trans hfi
      have hizx : wi.heap.size ≥ wa.heap.size := HNi.out.size
      have hszs := HNs.out.size
      obtain ⟨gi, hgi⟩ : ∃ g, ws.heap.size + 1 = g := ⟨_, rfl⟩
      have hgi2 : wr.heap.size ≤ gi := by rw [← hgi]; have := HGb.out; omega
      rw [hgi] at hbi ⊢
      have HBi := Lib.hid hbi
      have HWr := Lib.hid (by have := pgWrite_run ax 8 gi 0 512 ib (HFa.out.fr HNi.out (fun h => h)) hpE (HDa.out.new HNi.out) ⟨bytesIn_of HBi.out, by rw [HIl.out]; omega, fun a ha => by injection ha with ha; subst ha; exact HBi.out.lt⟩ (fun h => by rcases h with h | h; (have := HRl.out gi h; omega); omega) (by rw [HIl.out]) (by omega) (by rw [hl1]; omega) (by omega) (by omega); rw [HIl.out] at this; exact this)
      clear hfi hbi hgi
      refine ⟨_, ?a9r8, rfl, ?b9r8, (fun _ => hSi), ?_⟩
      case b9r8 => (simp only [Act.put, List.setIfInBounds_toArray, List.set_cons_zero, List.set_cons_succ]; rfl)
      refine Rg.call 10 (some 45) (hrun := ?h10r8) (hcall := HWr.out) (h := ?_)
      case h10r8 => (go_simp)
      rintro e wj ⟨rfl, hdj, hfj⟩
      have HDj := Lib.hid hdj
      have HFj := Lib.hid hfj
      have hSj : Fr (fun y => Ext R w wr y) wa wj := hSi.trans hfj.fr
      clear hdj hfj HWr
      refine ⟨_, ?a10r8, rfl, ?b10r8, (fun _ => hSj), ?_⟩
      case b10r8 => (simp only [Act.put, List.setIfInBounds_toArray, List.set_cons_zero, List.set_cons_succ]; rfl)
      refine Rg.op 11 (some 9) hSj (v := ?v11r8) (hy := fun wz hwz => ?h11r8) (h := ?_)
      case h11r8 => (go_simp; try with_reducible rfl)
      refine Rg.done _ (h := ?_)
      have hsj := HFj.out.size
      have hzr := HGb.out
      have hzi := HNi.out.size
      have HDk : Hid (DiskOk (Ext R w wj) wj d (runs S (plcOps sp t (l.map (·.1)) (k + 1))).1) := by
        rw [HSt2.out]
        exact HDj.out.more (fun y hy => Ext.step' hFs (by omega) hsj hy) (fun y hy => Ext.lt HRl.out (by omega) hy)
      have HFk : Hid (FrD R w wj) := FrD.next hF.out (HNa.out.trans HNi.out) HFj.out
      clear HDj HFj hSj hSi hS hSn hSs hC0
      rw [← HSt2.out]
      obtain ⟨cd, hcd⟩ : ∃ cd, (runs S (plcOps sp t (l.map (·.1)) (k + 1))).2 = cd := ⟨_, rfl⟩
      rw [hcd]
      have HCd := Lib.hid hcd
      rcases (by have := runs_code S (plcOps sp t (l.map (·.1)) (k + 1)); rw [hcd] at this; exact this : cd = 0 ∨ cd = 50) with h0 | h50
      · subst h0
        clear hcd
        go_wp2
        go_roundw
        case rel => exact ⟨k + 1, by omega, by go_num, HDk, HCd.out, HFk⟩
        case measure => simp [intOf]; omega
      · subst h50
        have HE : Hid (runs S OA = runs S (plcOps sp t (l.map (·.1)) (k + 1))) := by
          obtain ⟨r, hr⟩ := plcOps_split sp t (l.map (·.1)) (k + 1) n (by omega)
          exact runs_stuck ⟨r ++ (secOps sp (lotB t n) 1 ++ ([.fl] ++ (layOps at0 (l.map (·.1)) n ++ [.fl]))), by rw [← HOA.out, ← HO3.out, ← HO2.out, ← HOL.out, hr]; simp only [List.append_assoc]⟩ (by rw [hcd]; decide)
        clear hcd
        go_wp2
        go_ret
        rw [HE.out, HCd.out]
        exact ⟨rfl, HDk.out, ⟨turn, H.out.fr HFk.out.fr hp, fun h => by cases h⟩, HFk.out.mono (fun _ _ h => .inl h)⟩
    · obtain rfl : k = n := by omega
      have hfb := H.out.fr hF.out.fr hp
      have fp := Blk.lt hfb
      have HFb := Lib.hid hfb
      have hFs := hF.out.size
      have HSpr := Lib.hid (HSpare.out wr _ hfb)
      clear hfb
      go_wp2_with fail
      refine HSpr.out.mono ?_
      rintro e w1 ⟨rfl, hf1⟩
      have HF1 := Lib.hid hf1
      have HLot := Lib.hid (lot_any t k w1 ht64 (by omega))
      clear hf1 HSpr
      go_wp2_with fail
      try (rw [qP]; go_wp2_with fail)
      refine HLot.out.mono ?_
      rintro e w2 ⟨rfl, hb2, hf2⟩
      have HF2 : Hid (Fr Nob wr w2) := HF1.out.trans hf2
      have HB2 := Lib.hid hb2
      obtain ⟨gl, hgl⟩ : ∃ g, w1.heap.size = g := ⟨_, rfl⟩
      have hgl2 : wr.heap.size ≤ gl := by rw [← hgl]; exact HF1.out.size
      rw [hgl] at HB2 ⊢
      have hl1 := HWl.out k
      have hl2 := HWs.out k
      have hpE : ¬ Ext R w wr p := fun h => by rcases h with h | h; exact hp h; omega
      have HWr := Lib.hid (by have := pgWrite_run sp 1 gl 0 64 (lotB t k) (HFb.out.fr HF2.out (fun h => h)) hpE (hD.out.new HF2.out) ⟨bytesIn_of HB2.out, by rw [lotB_length]; omega, fun a ha => by injection ha with ha; subst ha; exact HB2.out.lt⟩ (fun h => by rcases h with h | h; (have := HRl.out gl h; omega); omega) (by rw [lotB_length]) (by omega) (by rw [hl1]; omega) (by omega) (by omega); rw [lotB_length] at this; exact this)
      have HE2 : Hid (runs S O2 = runs (runs S (plcOps sp t (l.map (·.1)) k)).1 (secOps sp (lotB t k) 1)) := by
        show _ = _
        rw [← HO2.out, runs_append, if_pos hC0.out]
      rw [← HE2.out] at HWr
      clear hf2 hb2 hgl HLot
      go_wp2_with fail
      refine HWr.out.mono ?_
      rintro e w3 ⟨rfl, hd3, hf3⟩
      have hs23 := hf3.size
      have hs12 := HF2.out.size
      have HD3 : Hid (DiskOk (Ext R w w3) w3 d (runs S O2).1) := hd3.more (fun y hy => Ext.step' hFs hs12 hs23 hy) (fun y hy => Ext.lt HRl.out (by omega) hy)
      have HF3 : Hid (FrD R w w3) := FrD.next hF.out HF2.out hf3
      clear hd3 hf3 HWr hD
      obtain ⟨cd, hcd⟩ : ∃ cd, (runs S O2).2 = cd := ⟨_, rfl⟩
      rw [hcd]
      have HCd := Lib.hid hcd
      have hp3 : p < w3.heap.size := by omega
      rcases (by have := runs_code S O2; rw [hcd] at this; exact this : cd = 0 ∨ cd = 50) with h0 | h50
      · subst h0
        have hw65 : (runs S O2).1.waits.length ≤ S.waits.length + 65 := runs_wlen (by rw [← HO2.out, List.length_append, secOps_length]; have := plcOps_length sp t (l.map (·.1)) k; omega)
        have HFl := Lib.hid (Flush_any HD3.out (by have := hw65; omega))
        have HE3 : Hid (runs S O3 = ((runs S O2).1.flushed, (runs S O2).1.fcode)) := by
          show _ = _
          rw [← HO3.out, runs_snoc hcd]
          unfold DS.flushed DS.fcode
          split <;> rfl
        have hfb := H.out.fr HF3.out.fr hp
        have c0 := Blk.cell hfb 0
        have fp3 := Blk.lt hfb
        simp only [List.getElem?_toArray, List.getElem?_cons_zero] at c0
        clear hfb hcd
        go_wp2_with fail
        refine HFl.out.mono ?_
        rintro e w4 ⟨rfl, hd4, hf4⟩
        have hs34 := hf4.size
        have HD4 : Hid (DiskOk (Ext R w w3) w4 d (runs S O3).1) := by rw [HE3.out]; exact hd4
        have HF4 : Hid (FrD R w w4) := FrD.step (F := Mut R w) HF3.out (fun i h => h) hf4 (fun i hi h => by
          rcases h with h | h
          · exact h
          · omega)
        have HE3' : Hid ((runs S O2).1.fcode = (runs S O3).2) := by show _ = _; rw [HE3.out]
        rw [HE3'.out]
        clear hd4 hf4 HFl c0
        obtain ⟨ce, hce⟩ : ∃ ce, (runs S O3).2 = ce := ⟨_, rfl⟩
        rw [hce]
        have HCe := Lib.hid hce
        have hfb := H.out.fr HF4.out.fr hp
        have c3 := Blk.cell hfb 3
        have f3 := Blk.frozen hfb 3
        have fp4 := Blk.lt hfb
        simp only [List.getElem?_toArray, List.getElem?_cons_zero, List.getElem?_cons_succ] at c3
        have HFb4 := Lib.hid hfb
        clear hfb
        rcases (by have := runs_code S O3; rw [hce] at this; exact this : ce = 0 ∨ ce = 50) with h0 | h50
        · subst h0
          have hf5 : Fr (fun b => b = p) w4 (w4.setCell ⟨p, 3, none⟩ (.int .u64 t)) := (Fr.refl (fun b => b = p) w4).setCell (p := ⟨p, 3, none⟩) (.inr rfl) _
          have ha5 : FileAt (w4.setCell ⟨p, 3, none⟩ (.int .u64 t)) p d at0 pages t := HFb4.out.set_ 3 _
          have hs45 : w4.heap.size = (w4.setCell ⟨p, 3, none⟩ (.int .u64 t)).heap.size := by simp [World.setCell]
          obtain ⟨w5, hw5⟩ : ∃ W, w4.setCell ⟨p, 3, none⟩ (.int .u64 t) = W := ⟨_, rfl⟩
          rw [hw5] at hf5 ha5 hs45
          have hE3p : ¬ Ext R w w3 p := fun h => by rcases h with h | h; exact hp h; omega
          have HD5 : Hid (DiskOk (Ext R w w3) w5 d (runs S O3).1) := HD4.out.fr hf5 (fun b hb e => hE3p (e ▸ hb))
          have HF5 : Hid (Fr (fun b => Mut R w b ∨ b = p) w w5) := Fr.step (HF4.out.mono (fun _ _ h => .inl h)) hf5 (fun i hi h => .inr h)
          have hpg5 := HLu.out w5 HF5.out
          have HPg5 : Hid (PgsIn (Ext R w w3) w5 A l) := hpg5.less (fun b hb h => by
            rcases h with h | h
            · exact .inl (.inl h)
            · exact .inl (.inr ⟨h.1, by omega⟩))
          have hlen5 := runs_length S O3
          have hwts5 : (runs S O3).1.waits.length ≤ 900000 := by
            have hl3 : O3.length ≤ 66 := by
              rw [← HO3.out, List.length_append, ← HO2.out, List.length_append, secOps_length]
              have := plcOps_length sp t (l.map (·.1)) k
              simp only [List.length_cons, List.length_nil]; omega
            have := runs_wlen (S := S) hl3
            omega
          have HLy := Lib.hid (lay_run A c l ha5 hE3p HD5.out HPg5.out HOk.out (by rw [HN.out]; omega) (by rw [hlen5]; have := HSp.out; omega) hat2 hpg hwts5)
          rw [HN.out, HOL.out] at HLy
          have HA5 := Lib.hid ha5
          have HEn : Hid (runs S OA = runs (runs S O3).1 OL) := by
            show _ = _
            rw [← HOA.out]
            conv => lhs; rw [runs_append]
            rw [if_pos hce]
          clear hce hpg5 hf5 ha5 HD4
          go_wp2_with fail
          refine HLy.out.mono ?_
          rintro e w6 ⟨rfl, hd6, hf6⟩
          have hs56 := hf6.size
          have HD6 := Lib.hid hd6
          have HF6 := Lib.hid hf6
          clear hd6 hf6 HLy hw5
          go_wp2
          go_ret
          rw [HEn.out]
          refine ⟨rfl, HD6.out.more (fun y hy => ?_) (fun y hy => Ext.lt HRl.out (by omega) hy), ⟨t, HA5.out.fr HF6.out.fr hE3p, fun _ => rfl⟩, ?_⟩
          · rcases hy with (hy | hy) | hy
            · exact .inl hy
            · exact .inr ⟨hy.1, by omega⟩
            · exact .inr ⟨by omega, hy.2⟩
          · refine Fr.step HF5.out (F := fun b => Mut R w b ∨ b = p) HF6.out (fun i hi h => ?_)
            obtain ⟨h1, h2⟩ := h
            have hRi : R i := by rcases h1 with h1 | h1; exact h1; omega
            by_cases hip : i = p
            · exact .inr hip
            · refine .inl ⟨hRi, fun ⟨cs, hcs⟩ => h2 ⟨cs, hcs.fr HF5.out (fun hF => ?_)⟩⟩
              rcases hF with hF | hF
              · exact hF.2 ⟨cs, hcs⟩
              · exact hip hF
        · subst h50
          have HE : Hid (runs S OA = runs S O3) := runs_stuck ⟨OL, HOA.out.symm⟩ (by rw [hce]; decide)
          clear hce
          go_wp2
          go_ret
          rw [HE.out, HCe.out]
          exact ⟨rfl, HD4.out.more (fun y hy => by rcases hy with hy | hy; exact .inl hy; exact .inr ⟨hy.1, by omega⟩) (fun y hy => Ext.lt HRl.out (by omega) hy), ⟨turn, HFb4.out, fun h => by cases h⟩, HF4.out.mono (fun _ _ h => .inl h)⟩
      · subst h50
        have HE : Hid (runs S OA = runs S O2) := runs_stuck ⟨[.fl] ++ OL, by rw [← HOA.out, ← HO3.out, List.append_assoc]⟩ (by rw [hcd]; decide)
        clear hcd
        go_wp2
        go_ret
        rw [HE.out, HCd.out]
        exact ⟨rfl, HD3.out, ⟨turn, H.out.fr HF3.out.fr hp, fun h => by cases h⟩, HF3.out.mono (fun _ _ h => .inl h)⟩
end Go.Proofs.YtccmmnacejdeoaaGreatDoor

/-
  What a file's sectors hold (plain).
-/
namespace Go.Proofs.YtccmmnacejdeoaaGreatDoor
set_option linter.unusedSimpArgs false
set_option linter.unusedVariables false
open Go.RowKit

section
variable (x : PgV) (k : Nat)
theorem img_get {o n : Nat} (hd : x.d.length = 480) (h : o + n ≤ 28) : ((imgB x k).drop o).take n = ((imgT x k).drop o).take n := by
  unfold imgB
  rw [splice_apart _ _ _ _ _ (by rw [putB_length, imgD_length x k hd]; omega) (.inl (by omega))]
  unfold imgD
  rw [splice_apart _ _ _ _ _ (by rw [imgT_length]; omega) (.inl (by omega))]
theorem img_turn (hd : x.d.length = 480) (h : k < 18446744073709551616) : pgTurn (imgB x k) = k := by
  unfold pgTurn
  rw [img_get x k hd (by omega)]
  unfold imgT
  have := splice_self (imgL x) (putB 8 k) 16 (by rw [putB_length, imgL_length]; omega)
  rw [putB_length] at this
  rw [this, getN_putB _ _ (by omega)]
  exact Nat.mod_eq_of_lt (by have : 256 ^ 8 = 18446744073709551616 := by decide
                             omega)
theorem img_lsn (hd : x.d.length = 480) (h : x.lsn < 18446744073709551616) : getN (((imgB x k).drop 8).take 8) = x.lsn := by
  rw [img_get x k hd (by omega)]
  unfold imgT
  rw [splice_apart _ _ _ _ _ (by rw [putB_length, imgL_length]; omega) (.inl (by omega))]
  unfold imgL
  have := splice_self (imgA x) (putB 8 x.lsn) 8 (by rw [putB_length, imgA_length]; omega)
  rw [putB_length] at this
  rw [this, getN_putB _ _ (by omega)]
  exact Nat.mod_eq_of_lt (by have : 256 ^ 8 = 18446744073709551616 := by decide
                             omega)
theorem img_no (hd : x.d.length = 480) (h : x.no < 4294967296) : getN (((imgB x k).drop 4).take 4) = x.no := by
  rw [img_get x k hd (by omega)]
  unfold imgT
  rw [splice_apart _ _ _ _ _ (by rw [putB_length, imgL_length]; omega) (.inl (by omega))]
  unfold imgL
  rw [splice_apart _ _ _ _ _ (by rw [putB_length, imgA_length]; omega) (.inl (by omega))]
  unfold imgA
  have := splice_self imgM (putB 4 x.no) 4 (by rw [putB_length, imgM_length]; omega)
  rw [putB_length] at this
  rw [this, getN_putB _ _ (by omega)]
  exact Nat.mod_eq_of_lt (by have : 256 ^ 4 = 4294967296 := by decide
                             omega)
theorem img_d (hd : x.d.length = 480) : (imgB x k).drop 32 = x.d := by
  have h1 : (imgB x k).drop 32 = ((imgB x k).drop 32).take 480 := by
    rw [List.take_of_length_le]
    rw [List.length_drop, imgB_length x k hd]; omega
  rw [h1]
  unfold imgB
  rw [splice_apart _ _ _ _ _ (by rw [putB_length, imgD_length x k hd]; omega) (.inr (by rw [putB_length]; omega))]
  unfold imgD
  have := splice_self (imgT x k) x.d 32 (by rw [imgT_length]; omega)
  rwa [hd] at this
theorem img_first (hd : x.d.length = 480) : (imgB x k)[0]? = some 84 := by
  unfold imgB
  rw [splice_at _ _ _ _ (by rw [putB_length, imgD_length x k hd]; omega) (.inl (by omega))]
  unfold imgD
  rw [splice_at _ _ _ _ (by rw [imgT_length]; omega) (.inl (by omega))]
  unfold imgT
  rw [splice_at _ _ _ _ (by rw [putB_length, imgL_length]; omega) (.inl (by omega))]
  unfold imgL
  rw [splice_at _ _ _ _ (by rw [putB_length, imgA_length]; omega) (.inl (by omega))]
  unfold imgA
  rw [splice_at _ _ _ _ (by rw [putB_length, imgM_length]; omega) (.inl (by omega))]
  unfold imgM
  rw [List.getElem?_set_self (by rw [zeros_length]; omega)]
theorem img_x (h : x.Ok) : pgX (imgB x k) = x := by
  unfold pgX
  have := h.no
  rw [img_no x k h.d (by omega), img_lsn x k h.d h.lsn, img_d x k h.d]
theorem img_ok (h : x.Ok) (hk : k < 18446744073709551616) : pgOk (imgB x k) = true := by
  unfold pgOk
  rw [img_x x k h, img_turn x k h.d hk, List.getD_eq_getElem?_getD, img_first x k h.d]
  simp
theorem img_some (h : x.Ok) : (imgB x k).all (· == 0) = false := by
  cases hb : (imgB x k).all (· == 0)
  · rfl
  · rw [List.all_eq_true] at hb
    have := hb 84 (List.mem_of_getElem? (img_first x k h.d))
    simp at this
end
theorem zeros_all (n : Nat) : (zeros n).all (· == 0) = true := by
  rw [List.all_eq_true]
  intro x hx
  unfold zeros at hx
  rw [List.mem_replicate] at hx
  rw [hx.2]; rfl
theorem zeros_notok : pgOk (zeros 512) = false := by
  unfold pgOk
  have : (zeros 512).getD 0 0 = 0 := by
    rw [List.getD_eq_getElem?_getD]
    unfold zeros
    rw [List.getElem?_replicate, if_pos (by omega)]; rfl
  rw [this]; rfl
theorem lot_n (t n : Nat) (h : n < 18446744073709551616) : getN (((lotB t n).drop 8).take 8) = n := by
  unfold lotB
  rw [splice_apart _ _ _ _ _ (by rw [putB_length, lotT_length]; omega) (.inl (by omega))]
  unfold lotT
  rw [splice_apart _ _ _ _ _ (by rw [putB_length, lotN_length]; omega) (.inl (by omega))]
  unfold lotN
  have := splice_self lotM (putB 8 n) 8 (by rw [putB_length, lotM_length]; omega)
  rw [putB_length] at this
  rw [this, getN_putB _ _ (by omega)]
  exact Nat.mod_eq_of_lt (by have : 256 ^ 8 = 18446744073709551616 := by decide
                             omega)
theorem lot_turn (t n : Nat) (h : t < 18446744073709551616) : getN (((lotB t n).drop 16).take 8) = t := by
  unfold lotB
  rw [splice_apart _ _ _ _ _ (by rw [putB_length, lotT_length]; omega) (.inl (by omega))]
  unfold lotT
  have := splice_self (lotN n) (putB 8 t) 16 (by rw [putB_length, lotN_length]; omega)
  rw [putB_length] at this
  rw [this, getN_putB _ _ (by omega)]
  exact Nat.mod_eq_of_lt (by have : 256 ^ 8 = 18446744073709551616 := by decide
                             omega)
theorem lot_first (t n : Nat) : (lotB t n)[0]? = some 85 := by
  unfold lotB
  rw [splice_at _ _ _ _ (by rw [putB_length, lotT_length]; omega) (.inl (by omega))]
  unfold lotT
  rw [splice_at _ _ _ _ (by rw [putB_length, lotN_length]; omega) (.inl (by omega))]
  unfold lotN
  rw [splice_at _ _ _ _ (by rw [putB_length, lotM_length]; omega) (.inl (by omega))]
  unfold lotM
  rw [List.getElem?_set_self (by rw [zeros_length]; omega)]

/-! ### sectors that were written -/
def wrNow (now : List (List UInt8)) (i : Nat) (b : List UInt8) : Nat → List (List UInt8)
  | 0 => now
  | k + 1 => (wrNow now i b k).set (i + k) ((b.drop (64 * k)).take 64)
theorem wrNow_length (now : List (List UInt8)) (i : Nat) (b : List UInt8) : ∀ k, (wrNow now i b k).length = now.length
  | 0 => rfl
  | k + 1 => by rw [wrNow, List.length_set, wrNow_length now i b k]
theorem wrNow_other (now : List (List UInt8)) (i : Nat) (b : List UInt8) (j : Nat) : ∀ k, (j < i ∨ i + k ≤ j) → (wrNow now i b k)[j]? = now[j]?
  | 0, _ => rfl
  | k + 1, h => by rw [wrNow, List.getElem?_set_ne (by omega), wrNow_other now i b j k (by omega)]
theorem wrNow_at (now : List (List UInt8)) (i : Nat) (b : List UInt8) (j : Nat) : ∀ k, j < k → i + k ≤ now.length → (wrNow now i b k)[i + j]? = some ((b.drop (64 * j)).take 64)
  | k + 1, hj, hl => by
    rw [wrNow]
    by_cases e : j = k
    · subst e
      rw [List.getElem?_set_self (by rw [wrNow_length]; omega)]
    · rw [List.getElem?_set_ne (by omega), wrNow_at now i b j k (by omega) (by omega)]
theorem secN_congr {a b : List (List UInt8)} (i : Nat) : ∀ n, (∀ k, k < n → a[i + k]? = b[i + k]?) → secN a i n = secN b i n
  | 0, _ => rfl
  | n + 1, h => by
    rw [secN, secN, secN_congr i n (fun k hk => h k (by omega)), List.getD_eq_getElem?_getD, List.getD_eq_getElem?_getD, h n (by omega)]
theorem secN_wr_take (now : List (List UInt8)) (i : Nat) (b : List UInt8) (n : Nat) (h : i + n ≤ now.length) : ∀ m, m ≤ n → secN (wrNow now i b n) i m = b.take (64 * m)
  | 0, _ => by simp [secN]
  | m + 1, hm => by
    rw [secN, secN_wr_take now i b n h m (by omega), List.getD_eq_getElem?_getD, wrNow_at now i b m n (by omega) h, Option.getD_some, show 64 * (m + 1) = 64 * m + 64 from by omega, List.take_add]
theorem secN_wr (now : List (List UInt8)) (i : Nat) (b : List UInt8) (n : Nat) (h : i + n ≤ now.length) (hb : b.length = 64 * n) : secN (wrNow now i b n) i n = b := by
  rw [secN_wr_take now i b n h n (Nat.le_refl _), List.take_of_length_le (by omega)]
theorem secN_wr_other (now : List (List UInt8)) (i : Nat) (b : List UInt8) (n j m : Nat) (h : j + m ≤ i ∨ i + n ≤ j) : secN (wrNow now i b n) j m = secN now j m :=
  secN_congr j m (fun k hk => wrNow_other now i b (j + k) n (by omega))
/-- What stands is written again. -/
theorem secN_piece {now : List (List UInt8)} (hs : ∀ (j : Nat) s, now[j]? = some s → s.length = 64) (i n : Nat) (h : i + n ≤ now.length) (k : Nat) (hk : k < n) : now[i + k]? = some (((secN now i n).drop (64 * k)).take 64) := by
  induction n with
  | zero => omega
  | succ n ih =>
    have hl := secN_length hs i n (by omega)
    have hlt : i + n < now.length := by omega
    have hg : now.getD (i + n) [] = now[i + n] := by rw [List.getD_eq_getElem?_getD, List.getElem?_eq_getElem hlt]; rfl
    have h64 := hs (i + n) _ (List.getElem?_eq_getElem hlt)
    by_cases e : k = n
    · subst e
      rw [secN, hg, List.drop_append_of_le_length (by omega), List.drop_of_length_le (by omega), List.nil_append, List.take_of_length_le (by omega), List.getElem?_eq_getElem hlt]
    · rw [ih (by omega) (by omega), secN, List.drop_append_of_le_length (by omega), List.take_append_of_le_length (by rw [List.length_drop]; omega)]
theorem wrNow_same {now : List (List UInt8)} (hs : ∀ (j : Nat) s, now[j]? = some s → s.length = 64) (i n : Nat) (h : i + n ≤ now.length) : ∀ k, k ≤ n → wrNow now i (secN now i n) k = now
  | 0, _ => rfl
  | k + 1, hk => by
    rw [wrNow, wrNow_same hs i n h k (by omega)]
    have := secN_piece hs i n h k (by omega)
    apply List.ext_getElem?
    intro j
    by_cases e : i + k = j
    · subst e
      rw [List.getElem?_set_self (by omega), this]
    · rw [List.getElem?_set_ne e]
end Go.Proofs.YtccmmnacejdeoaaGreatDoor
