/-
  PgLay, PgWr, in one text.
-/
import Derived.Test.YtccmmnacejdeoaaGreatDoorMg18
/-
  Pages in a slice; lay: pages are written where they stand.
-/
namespace Go.Proofs.YtccmmnacejdeoaaGreatDoor
set_option linter.unusedSimpArgs false
set_option linter.unusedVariables false
open Go.RowKit

structure PgV.Ok (x : PgV) : Prop where
  no : x.no < 100000
  lsn : x.lsn < 18446744073709551616
  d : x.d.length = 480
/-- A page's data, as a value shows it. -/
def PCell (R : Nat → Prop) (w : World) (x : PgV) (v : Value) : Prop := ∃ kb ko c, v = .slice (some ⟨kb, ko, none⟩) 480 c ∧ Bsl w (some ⟨kb, ko, none⟩) c x.d ∧ ¬ R kb
theorem PCell.fr {R F : Nat → Prop} {w w' : World} {x : PgV} {v : Value} (h : PCell R w x v) (hf : Fr F w w') (hF : ∀ b, b < w.heap.size → F b → R b) : PCell R w' x v := by
  obtain ⟨kb, ko, c, rfl, h1, h2⟩ := h
  have hlt := h1.lt _ rfl
  exact ⟨kb, ko, c, rfl, ⟨h1.h.fr hf (fun a ha h => by injection ha with ha; subst ha; exact h2 (hF _ hlt h)), h1.le, fun a ha => Nat.lt_of_lt_of_le (h1.lt a ha) hf.size⟩, h2⟩
theorem PCell.less {R R' : Nat → Prop} {w : World} {x : PgV} {v : Value} (h : PCell R w x v) (hr : ∀ b, b < w.heap.size → R' b → R b) : PCell R' w x v := by
  obtain ⟨kb, ko, c, rfl, h1, h2⟩ := h
  have hlt := h1.lt _ rfl
  exact ⟨kb, ko, c, rfl, h1, fun h => h2 (hr _ hlt h)⟩
/-- Pages in a slice. -/
def PgsIn (R : Nat → Prop) (w : World) (A : Option Addr) (l : List (PgV × Value)) : Prop := 0 < l.length → ∃ g, A = some ⟨g, 0, none⟩ ∧ ¬ R g ∧ ∀ (j : Nat) x, l[j]? = some x →
  w.cell? ⟨g, j * 3, none⟩ = some (.int .i64 x.1.no) ∧ w.cell? ⟨g, j * 3 + 1, none⟩ = some (.int .u64 x.1.lsn) ∧ w.cell? ⟨g, j * 3 + 2, none⟩ = some x.2 ∧ PCell R w x.1 x.2
theorem PgsIn.fr {R F : Nat → Prop} {w w' : World} {A : Option Addr} {l : List (PgV × Value)} (h : PgsIn R w A l) (hf : Fr F w w') (hF : ∀ b, b < w.heap.size → F b → R b) : PgsIn R w' A l := by
  intro h0
  obtain ⟨g, rfl, hg, hc⟩ := h h0
  refine ⟨g, rfl, hg, fun j x hx => ?_⟩
  obtain ⟨c0, c1, c2, c3⟩ := hc j x hx
  have hlt := cell_lt c0
  have hn : ¬ F g := fun h => hg (hF _ hlt h)
  exact ⟨(hf.cell (p := ⟨g, j * 3, none⟩) hlt hn).trans c0, (hf.cell (p := ⟨g, j * 3 + 1, none⟩) hlt hn).trans c1, (hf.cell (p := ⟨g, j * 3 + 2, none⟩) hlt hn).trans c2, c3.fr hf hF⟩
theorem PgsIn.less {R R' : Nat → Prop} {w : World} {A : Option Addr} {l : List (PgV × Value)} (h : PgsIn R w A l) (hr : ∀ b, b < w.heap.size → R' b → R b) : PgsIn R' w A l := by
  intro h0
  obtain ⟨g, rfl, hg, hc⟩ := h h0
  obtain ⟨c0, _⟩ := hc 0 _ (List.getElem?_eq_getElem h0)
  have hlt := cell_lt c0
  refine ⟨g, rfl, fun h => hg (hr _ hlt h), fun j x hx => ?_⟩
  obtain ⟨c0, c1, c2, c3⟩ := hc j x hx
  exact ⟨c0, c1, c2, c3.less hr⟩

set_option maxRecDepth 100000 in
theorem spare_any {w : World} {p d at0 pages turn : Nat} (h : FileAt w p d at0 pages turn) (h1 : at0 ≤ 100000) (h2 : pages ≤ 100000) : Calls Tryz.prog 63 #[.pointer (some ⟨p, 0, none⟩)] w fun e w' => e = .returned (.int .i64 (at0 + 8 * pages : Nat)) ∧ Fr Nob w w' := by
  have HB := Lib.hid h
  have hp := h.lt
  have u1 : IntKind.i64.wrap (8 * (pages : Int)) = 8 * (pages : Int) := by rw [IntKind.wrap_i64]; omega
  have u2 : IntKind.i64.wrap ((at0 : Int) + 8 * (pages : Int)) = (at0 : Int) + 8 * (pages : Int) := by rw [IntKind.wrap_i64]; omega
  have e1 : ((at0 + 8 * pages : Nat) : Int) = (at0 : Int) + 8 * (pages : Int) := by omega
  rw [e1]
  clear h e1
  go_enter Tryz.func63, Tryz.ntmps63
  go_wp2
  have hS : Fr Nob w w.drew := (Fr.refl _ w).drew
  refine Rg.begin (Fr Nob w) [] (by kernel_rfl) ?_
  refine Rg.op 0 (some 3) hS (v := ?v0s) (a' := ?a0s) (hy := fun wz hwz => ?h0s) (ha := ?b0s) (h := ?_)
  case h0s => (go_simp; try with_reducible rfl)
  case b0s => (simp only [Act.put, List.setIfInBounds_toArray, List.set_cons_zero, List.set_cons_succ]; rfl)
  refine Rg.op 1 (some 4) hS (v := ?v1s) (a' := ?a1s) (hy := fun wz hwz => ?h1s) (ha := ?b1s) (h := ?_)
  case h1s => (go_simp; try with_reducible rfl)
  case b1s => (simp only [Act.put, List.setIfInBounds_toArray, List.set_cons_zero, List.set_cons_succ]; rfl)
  refine Rg.op 2 (some 5) hS (v := ?v2s) (a' := ?a2s) (hy := fun wz hwz => ?h2s) (ha := ?b2s) (h := ?_)
  case h2s => (go_simp; try with_reducible rfl)
  case b2s => (simp only [Act.put, List.setIfInBounds_toArray, List.set_cons_zero, List.set_cons_succ]; rfl)
  refine Rg.op 3 (some 6) hS (v := ?v3s) (a' := ?a3s) (hy := fun wz hwz => ?h3s) (ha := ?b3s) (h := ?_)
  case h3s => (have hb := HB.out.fr hwz (fun h => h); have cc := Blk.cell hb 1; have hpp := Blk.lt hb; simp only [List.getElem?_toArray, List.getElem?_cons_zero, List.getElem?_cons_succ] at cc; clear hb; go_simp; try with_reducible rfl)
  case b3s => (simp only [Act.put, List.setIfInBounds_toArray, List.set_cons_zero, List.set_cons_succ]; rfl)
  refine Rg.op 4 (some 7) hS (v := ?v4s) (a' := ?a4s) (hy := fun wz hwz => ?h4s) (ha := ?b4s) (h := ?_)
  case h4s => (go_simp; try with_reducible rfl)
  case b4s => (simp only [Act.put, List.setIfInBounds_toArray, List.set_cons_zero, List.set_cons_succ]; rfl)
  refine Rg.op 5 (some 8) hS (v := ?v5s) (a' := ?a5s) (hy := fun wz hwz => ?h5s) (ha := ?b5s) (h := ?_)
  case h5s => (go_simp; try with_reducible rfl)
  case b5s => (simp only [Act.put, List.setIfInBounds_toArray, List.set_cons_zero, List.set_cons_succ]; rfl)
  refine Rg.op 6 (some 9) hS (v := ?v6s) (a' := ?a6s) (hy := fun wz hwz => ?h6s) (ha := ?b6s) (h := ?_)
  case h6s => (go_simp; try with_reducible rfl)
  case b6s => (simp only [Act.put, List.setIfInBounds_toArray, List.set_cons_zero, List.set_cons_succ]; rfl)
  refine Rg.op 7 (some 10) hS (v := ?v7s) (a' := ?a7s) (hy := fun wz hwz => ?h7s) (ha := ?b7s) (h := ?_)
  case h7s => (have hb := HB.out.fr hwz (fun h => h); have cc := Blk.cell hb 2; have hpp := Blk.lt hb; simp only [List.getElem?_toArray, List.getElem?_cons_zero, List.getElem?_cons_succ] at cc; clear hb; go_simp; try with_reducible rfl)
  case b7s => (simp only [Act.put, List.setIfInBounds_toArray, List.set_cons_zero, List.set_cons_succ]; rfl)
  refine Rg.op 8 (some 11) hS (v := (.int .i64 (8 * (pages : Int)))) (a' := ?a8s) (hy := fun wz hwz => ?h8s) (ha := ?b8s) (h := ?_)
  case h8s => (have y := u1; go_simp; try with_reducible rfl)
  case b8s => (simp only [Act.put, List.setIfInBounds_toArray, List.set_cons_zero, List.set_cons_succ]; rfl)
  refine Rg.op 9 (some 12) hS (v := (.int .i64 ((at0 : Int) + 8 * (pages : Int)))) (a' := ?a9s) (hy := fun wz hwz => ?h9s) (ha := ?b9s) (h := ?_)
  case h9s => (have y := u2; go_simp; try with_reducible rfl)
  case b9s => (simp only [Act.put, List.setIfInBounds_toArray, List.set_cons_zero, List.set_cons_succ]; rfl)
  refine Rg.op 10 (some 2) hS (v := ?v10s) (a' := ?a10s) (hy := fun wz hwz => ?h10s) (ha := ?b10s) (h := ?_)
  case h10s => (go_simp; try with_reducible rfl)
  case b10s => (simp only [Act.put, List.setIfInBounds_toArray, List.set_cons_zero, List.set_cons_succ]; rfl)
  refine Rg.done _ (h := ?_)
  go_wp2
  go_ret
  exact ⟨rfl, hS⟩
set_option maxRecDepth 100000 in
theorem Need_any (n : Nat) (w : World) (h : n ≤ 100000) (h1 : 1 ≤ n) : Calls Tryz.prog 20 #[.int .i64 n] w fun e w' => e = .returned (.int .i64 (8 * n + 80 : Nat)) ∧ w = w' := by
  have HU : Hid ((8 * (n : Int) + 80) = ((8 * n + 80 : Nat) : Int)) := by show _ = _; omega
  have u0 : ¬ (n : Int) < 1 := by omega
  have hmax : max (n : Int) 1 = (n : Int) := by omega
  rw [← HU.out]
  go_enter Tryz.func20, Tryz.ntmps20
  go_wp2
  go_ret
  exact ⟨rfl, rfl⟩

/-- What lay writes. -/
def layN (S : DS) (at0 : Nat) (l : List (PgV × Value)) : Nat → DS
  | 0 => S
  | k + 1 => match l[k]? with
    | some x => wrAll (layN S at0 l k) (at0 + 8 * x.1.no) (imgB x.1 0) 8
    | none => layN S at0 l k
theorem layN_calm {S : DS} (h : Calm S) (at0 : Nat) (l : List (PgV × Value)) : ∀ k, Calm (layN S at0 l k)
  | 0 => h
  | k + 1 => by
    unfold layN
    split
    · exact wrAll_calm (layN_calm h at0 l k) _ _ _
    · exact layN_calm h at0 l k
theorem layN_length (S : DS) (at0 : Nat) (l : List (PgV × Value)) : ∀ k, (layN S at0 l k).now.length = S.now.length
  | 0 => rfl
  | k + 1 => by
    unfold layN
    split
    · rw [wrAll_length, layN_length S at0 l k]
    · exact layN_length S at0 l k
theorem layN_waits (S : DS) (at0 : Nat) (l : List (PgV × Value)) : ∀ k, (layN S at0 l k).waits.length ≤ S.waits.length + 8 * k
  | 0 => Nat.le_refl _
  | k + 1 => by
    have := layN_waits S at0 l k
    unfold layN
    split
    · rw [wrAll_waits]; omega
    · omega
theorem len_Pg (w : World) (A : Option Addr) (n c : Nat) : (Builtin.len_ #[104] 3 #[Value.slice A n c]).run Tryz.prog w = .ok (.int .i64 n) w := by go_simp
theorem FrD.alloc {R : Nat → Prop} {w W : World} (h : FrD R w W) (o : Obj) : FrD R w (W.alloc o) := Fr.alloc h o
theorem ext_step {R : Nat → Prop} {w a b : World} (hs : w.heap.size ≤ a.heap.size) (hb : a.heap.size ≤ b.heap.size) : ∀ x, Ext (fun y => Ext R w a y) a b x → Ext R w b x := fun x hx => by
  rcases hx with (hx | hx) | hx
  · exact .inl hx
  · exact .inr ⟨hx.1, by omega⟩
  · exact .inr ⟨by omega, hx.2⟩

set_option maxHeartbeats 3200000 in
set_option maxRecDepth 100000 in
theorem lay_any {R : Nat → Prop} {w : World} {p d at0 pages turn : Nat} {S : DS} (A : Option Addr) (c : Nat) (l : List (PgV × Value)) (h : FileAt w p d at0 pages turn) (hp : ¬ R p) (hd : DiskOk R w d S) (hca : Calm S) (hl : PgsIn R w A l) (hok : ∀ x ∈ l, x.1.Ok ∧ x.1.no < pages) (hn : l.length ≤ 8) (hat : at0 + 8 * pages ≤ S.now.length) (hat2 : at0 ≤ 60000) (hpg : pages ≤ 5000) (hwl : S.waits.length ≤ 900000) :
    Calls Tryz.prog 39 #[.pointer (some ⟨p, 0, none⟩), .slice A l.length c] w fun e w' => e = .returned (.int .i64 0) ∧ DiskOk (Ext R w w') w' d (layN S at0 l l.length).flushed ∧ FrD R w w' := by
  have qP := len_Pg
  have H := Lib.hid h
  have hp0 := h.lt
  have HL := Lib.hid hl
  have HOk := Lib.hid hok
  have HCa := Lib.hid hca
  have HRl : Hid (∀ x, R x → x < w.heap.size) := fun x hx => hd.lt hx
  have HD0 : Hid (DiskOk (Ext R w w) w d (layN S at0 l 0)) := hd.ext (Nat.le_refl _) hd
  have HWl : Hid (∀ k, (layN S at0 l k).now.length = S.now.length) := layN_length S at0 l
  have HWs : Hid (∀ k, (layN S at0 l k).waits.length ≤ S.waits.length + 8 * k) := layN_waits S at0 l
  obtain ⟨n, hnn⟩ : ∃ n, l.length = n := ⟨_, rfl⟩
  have HN := Lib.hid hnn
  rw [hnn] at hn ⊢
  clear h hd hl hok hca hnn
  go_enter Tryz.func39, Tryz.ntmps39
  go_wp2
  try (rw [qP]; go_wp2)
  go_loopw [6, 7, 10] (fun _ _ iv wr => ∃ k : Nat, k ≤ n ∧ iv = .int .i64 k ∧ Hid (DiskOk (Ext R w wr) wr d (layN S at0 l k)) ∧ Hid (FrD R w wr)) (fun _ _ iv _ => n - (intOf iv).toNat)
  case atStart => exact ⟨0, by omega, rfl, HD0, Fr.refl _ _⟩
  case round =>
    clear HD0
    obtain ⟨k, hk, rfl, hD, hF⟩ := hrel
    by_cases hlt : k < n
    · have hkl : k < l.length := by rw [HN.out]; exact hlt
      obtain ⟨x, hx⟩ : ∃ x, l[k]? = some x := ⟨_, List.getElem?_eq_getElem hkl⟩
      have hin := HL.out.fr hF.out.fr (fun b _ h => h)
      obtain ⟨g, rfl, hgR, hcs⟩ := hin (by omega)
      obtain ⟨c0, c1, c2, kb, ko, cc, hv, hbs, hkb⟩ := hcs k x hx
      have hxok := HOk.out x (List.mem_of_getElem? hx)
      have hstep : layN S at0 l (k + 1) = wrAll (layN S at0 l k) (at0 + 8 * x.1.no) (imgB x.1 0) 8 := by
        conv => lhs; unfold layN
        rw [hx]
      have HSt := Lib.hid hstep
      have hcl := cell_lt c0
      rw [hv] at c2
      obtain ⟨⟨xn, xl, xd⟩, xv⟩ := x
      dsimp only at c0 c1 c2 hbs hxok
      have HBs := Lib.hid hbs
      have hx1 := hxok.1.no
      have hx2 := hxok.1.lsn
      have hx3 := hxok.1.d
      have hx4 := hxok.2
      dsimp only at hx1 hx2 hx3 hx4
      have HX3 := Lib.hid hx3
      clear hcs hin hbs hstep hv hxok hx hx3
      go_wp2
      have hfb : FileAt wr p d at0 pages turn := H.out.fr hF.out.fr hp
      have hfa : FileAt (wr.alloc (.cells #[.int .i64 xn, .int .u64 xl, .slice (some ⟨kb, ko, none⟩) 480 cc] 40)) p d at0 pages turn := Blk.alloc hfb _
      have hbx : Blk (wr.alloc (.cells #[.int .i64 xn, .int .u64 xl, .slice (some ⟨kb, ko, none⟩) 480 cc] 40)) wr.heap.size 40 #[.int .i64 xn, .int .u64 xl, .slice (some ⟨kb, ko, none⟩) 480 cc] := Blk.new _ _ _
      have hna : Fr Nob wr (wr.alloc (.cells #[.int .i64 xn, .int .u64 xl, .slice (some ⟨kb, ko, none⟩) 480 cc] 40)) := (Fr.refl _ wr).alloc _
      have hsza : (wr.alloc (.cells #[.int .i64 xn, .int .u64 xl, .slice (some ⟨kb, ko, none⟩) 480 cc] 40)).heap.size = wr.heap.size + 1 := World.size_alloc ..
      obtain ⟨wa, hwa⟩ : ∃ W, wr.alloc (.cells #[.int .i64 xn, .int .u64 xl, .slice (some ⟨kb, ko, none⟩) 480 cc] 40) = W := ⟨_, rfl⟩
      rw [hwa] at hfa hbx hna hsza ⊢
      obtain ⟨gb, hgb⟩ : ∃ g, wr.heap.size = g := ⟨_, rfl⟩
      have HGb := Lib.hid hgb
      rw [hgb] at hbx hsza ⊢
      have hFs := hF.out.size
      have hpE : ¬ Ext R w wr p := fun h => by rcases h with h | h; exact hp h; omega
      have hbE : ¬ Ext R w wr gb := fun h => by
        rcases h with h | h
        · have := HRl.out gb h; omega
        · omega
      have HFa := Lib.hid hfa
      have HBx := Lib.hid hbx
      have HNa := Lib.hid hna
      have HDa := Lib.hid (hD.out.new hna)
      have u1 : IntKind.i64.wrap (8 * (xn : Int)) = 8 * (xn : Int) := by rw [IntKind.wrap_i64]; omega
      have u2 : IntKind.i64.wrap ((at0 : Int) + 8 * (xn : Int)) = ((at0 + 8 * xn : Nat) : Int) := by rw [IntKind.wrap_i64]; omega
      obtain ⟨ax, hax⟩ : ∃ n, at0 + 8 * xn = n := ⟨_, rfl⟩
      rw [hax] at u2
      have HAx := Lib.hid hax
      have hax1 : ax + 8 ≤ S.now.length := by omega
      have hsm := hD.out.small
      rw [HWl.out k] at hsm
      have hax2 : ax ≤ 70000 := by omega
      have HBa := Lib.hid (HBs.out.new hna)
      have hl1 := HWl.out k
      have hl2 := HWs.out k
      have HCk := Lib.hid (layN_calm HCa.out at0 l k)
      have HIm : Hid (∀ W, Fr Nob wa W → Calls Tryz.prog 61 #[.agg #[.int .i64 xn, .int .u64 xl, .slice (some ⟨kb, ko, none⟩) 480 cc], .int .u64 0] W fun e w' => e = .returned (.slice (some ⟨W.heap.size + 1, 0, none⟩) 512 512) ∧ Blk w' (W.heap.size + 1) 5 (bts (imgB ⟨xn, xl, xd⟩ 0)).toArray ∧ Fr Nob W w') := fun W hW =>
        image_any ⟨xn, xl, xd⟩ 0 (some ⟨kb, ko, none⟩) cc W HX3.out (HBa.out.new hW).h (by show xn < _; omega) hx2 (by omega)
      have HIl := Lib.hid (imgB_length ⟨xn, xl, xd⟩ 0 HX3.out)
      obtain ⟨ib, hib⟩ : ∃ b, imgB ⟨xn, xl, xd⟩ 0 = b := ⟨_, rfl⟩
      rw [hib] at HIm HIl
      have HSt2 : Hid (layN S at0 l (k + 1) = wrAll (layN S at0 l k) ax ib 8) := by
        show _ = _
        rw [HSt.out, ← hax, ← hib]
      clear hwa hfa hbx hna hgb hib hax HSt hfb c0 c1 c2 HBs
      have hS : Fr (fun y => Ext R w wr y) wa wa.drew := (Fr.refl _ wa).drew
      refine Rg.begin' (Fr (fun y => Ext R w wr y) wa) [] (by kernel_rfl) ?_
      refine Rg.op 0 (some 14) hS (v := ?v0r4) (a' := ?a0r4) (hy := fun wz hwz => ?h0r4) (ha := ?b0r4) (h := ?_)
      case h0r4 => (go_simp; try with_reducible rfl)
      case b0r4 => (simp only [Act.put, List.setIfInBounds_toArray, List.set_cons_zero, List.set_cons_succ]; rfl)
      refine Rg.op 1 (some 15) hS (v := ?v1r4) (a' := ?a1r4) (hy := fun wz hwz => ?h1r4) (ha := ?b1r4) (h := ?_)
      case h1r4 => (go_simp; try with_reducible rfl)
      case b1r4 => (simp only [Act.put, List.setIfInBounds_toArray, List.set_cons_zero, List.set_cons_succ]; rfl)
      refine Rg.op 2 (some 16) hS (v := ?v2r4) (a' := ?a2r4) (hy := fun wz hwz => ?h2r4) (ha := ?b2r4) (h := ?_)
      case h2r4 => (go_simp; try with_reducible rfl)
      case b2r4 => (simp only [Act.put, List.setIfInBounds_toArray, List.set_cons_zero, List.set_cons_succ]; rfl)
      refine Rg.op 3 (some 17) hS (v := ?v3r4) (a' := ?a3r4) (hy := fun wz hwz => ?h3r4) (ha := ?b3r4) (h := ?_)
      case h3r4 => (go_simp; try with_reducible rfl)
      case b3r4 => (simp only [Act.put, List.setIfInBounds_toArray, List.set_cons_zero, List.set_cons_succ]; rfl)
      refine Rg.op 4 (some 18) hS (v := ?v4r4) (a' := ?a4r4) (hy := fun wz hwz => ?h4r4) (ha := ?b4r4) (h := ?_)
      case h4r4 => (have hb := HFa.out.fr hwz (fun h => hpE h); have cc1 := Blk.cell hb 1; have hpp := Blk.lt hb; simp only [List.getElem?_toArray, List.getElem?_cons_zero, List.getElem?_cons_succ] at cc1; clear hb; go_simp; try with_reducible rfl)
      case b4r4 => (simp only [Act.put, List.setIfInBounds_toArray, List.set_cons_zero, List.set_cons_succ]; rfl)
      refine Rg.op 5 (some 19) hS (v := ?v5r4) (a' := ?a5r4) (hy := fun wz hwz => ?h5r4) (ha := ?b5r4) (h := ?_)
      case h5r4 => (go_simp; try with_reducible rfl)
      case b5r4 => (simp only [Act.put, List.setIfInBounds_toArray, List.set_cons_zero, List.set_cons_succ]; rfl)
      refine Rg.op 6 (some 20) hS (v := ?v6r4) (a' := ?a6r4) (hy := fun wz hwz => ?h6r4) (ha := ?b6r4) (h := ?_)
      case h6r4 => (have hb := HBx.out.fr hwz (fun h => hbE h); have cc1 := Blk.cell hb 0; have hpp := Blk.lt hb; simp only [List.getElem?_toArray, List.getElem?_cons_zero, List.getElem?_cons_succ] at cc1; clear hb; go_simp; try with_reducible rfl)
      case b6r4 => (simp only [Act.put, List.setIfInBounds_toArray, List.set_cons_zero, List.set_cons_succ]; rfl)
      refine Rg.op 7 (some 21) hS (v := (.int .i64 (8 * (xn : Int)))) (a' := ?a7r4) (hy := fun wz hwz => ?h7r4) (ha := ?b7r4) (h := ?_)
      case h7r4 => (have y := u1; go_simp; try with_reducible rfl)
      case b7r4 => (simp only [Act.put, List.setIfInBounds_toArray, List.set_cons_zero, List.set_cons_succ]; rfl)
      refine Rg.op 8 (some 22) hS (v := (.int .i64 ax)) (a' := ?a8r4) (hy := fun wz hwz => ?h8r4) (ha := ?b8r4) (h := ?_)
      case h8r4 => (have y := u2; go_simp; try with_reducible rfl)
      case b8r4 => (simp only [Act.put, List.setIfInBounds_toArray, List.set_cons_zero, List.set_cons_succ]; rfl)
      refine Rg.op 9 (some 23) hS (v := (.agg #[.int .i64 xn, .int .u64 xl, .slice (some ⟨kb, ko, none⟩) 480 cc])) (a' := ?a9r4) (hy := fun wz hwz => ?h9r4) (ha := ?b9r4) (h := ?_)
      case h9r4 => (have hb := HBx.out.fr hwz (fun h => hbE h); have cc0 := Blk.cell hb 0; have cc1 := Blk.cell hb 1; have cc2 := Blk.cell hb 2; have hpp := Blk.lt hb; simp only [List.getElem?_toArray, List.getElem?_cons_zero, List.getElem?_cons_succ] at cc0 cc1 cc2; clear hb; go_simp; try with_reducible rfl)
      case b9r4 => (simp only [Act.put, List.setIfInBounds_toArray, List.set_cons_zero, List.set_cons_succ]; rfl)
      refine Rg.call 10 (some 24) (hrun := ?h10r4) (hcall := HIm.out _ (Fr.refl _ wa).drew) (h := ?_)
      case h10r4 => (go_simp)
      rintro e wi ⟨rfl, hbi, hfi⟩
      have hSi : Fr (fun y => Ext R w wr y) wa wi := hS.trans (hfi.mono (fun _ _ h => h.elim))
      have HNi : Hid (Fr Nob wa wi) := (Fr.refl _ wa).drew.trans hfi
      have hizx : wi.heap.size ≥ wa.heap.size := HNi.out.size
      obtain ⟨gi, hgi⟩ : ∃ g, wa.drew.heap.size + 1 = g := ⟨_, rfl⟩
      have hgi2 : wr.heap.size ≤ gi := by rw [← hgi]; have := HGb.out; show _ ≤ wa.heap.size + 1; omega
      rw [hgi] at hbi ⊢
      have HBi := Lib.hid hbi
      have HWr := Lib.hid (by have := pgWrite8_any ax 8 gi 0 512 ib (HFa.out.fr HNi.out (fun h => h)) hpE (HDa.out.new HNi.out) HCk.out ⟨bytesIn_of HBi.out, by rw [HIl.out]; omega, fun a ha => by injection ha with ha; subst ha; exact HBi.out.lt⟩ (fun h => by rcases h with h | h; (have := HRl.out gi h; omega); omega) (by rw [HIl.out]) (by omega) (by rw [hl1]; omega) (by omega) (by omega); rw [HIl.out] at this; exact this)
      clear hfi hbi hgi
      refine ⟨_, ?a10r4, rfl, ?b10r4, (fun _ => hSi), ?_⟩
      case b10r4 => (simp only [Act.put, List.setIfInBounds_toArray, List.set_cons_zero, List.set_cons_succ]; rfl)
      refine Rg.call 11 (some 25) (hrun := ?h11r4) (hcall := HWr.out) (h := ?_)
      case h11r4 => (go_simp)
      rintro e wj ⟨rfl, hdj, hfj⟩
      have HDj := Lib.hid hdj
      have HFj := Lib.hid hfj
      have hSj : Fr (fun y => Ext R w wr y) wa wj := hSi.trans hfj.fr
      clear hdj hfj HWr
      refine ⟨_, ?a11r4, rfl, ?b11r4, (fun _ => hSj), ?_⟩
      case b11r4 => (simp only [Act.put, List.setIfInBounds_toArray, List.set_cons_zero, List.set_cons_succ]; rfl)
      refine Rg.op 12 (some 7) hSj (v := ?v12r4) (a' := ?a12r4) (hy := fun wz hwz => ?h12r4) (ha := ?b12r4) (h := ?_)
      case h12r4 => (go_simp; try with_reducible rfl)
      case b12r4 => (simp only [Act.put, List.setIfInBounds_toArray, List.set_cons_zero, List.set_cons_succ]; rfl)
      refine Rg.done _ (h := ?_)
      have hsj := HFj.out.size
      have hzr := HGb.out
      have hzi := HNi.out.size
      have HDk : Hid (DiskOk (Ext R w wj) wj d (layN S at0 l (k + 1))) := by
        rw [HSt2.out]
        exact HDj.out.more (fun y hy => by
          rcases hy with (hy | hy) | hy
          · exact .inl hy
          · exact .inr ⟨hy.1, by have := HNi.out.size; omega⟩
          · exact .inr ⟨by have := HNi.out.size; omega, hy.2⟩) (fun y hy => by
          rcases hy with hy | hy
          · have := HRl.out y hy; have := HNi.out.size; omega
          · exact hy.2)
      have HFk : Hid (FrD R w wj) := FrD.step (Fr.trans (Fr.trans hF.out (HNa.out.mono (fun _ _ h => h.elim))) (HNi.out.mono (fun _ _ h => h.elim))) (fun i h => h) HFj.out (fun i hi h => by
        rcases h with h | h
        · exact h
        · omega)
      clear HDj HFj hSj hSi hS
      go_wp2
      go_roundw
      case rel => exact ⟨k + 1, by omega, by go_num, HDk, HFk⟩
      case measure => simp [intOf]; omega
    · obtain rfl : k = n := by omega
      have hfb := H.out.fr hF.out.fr hp
      have c0 := Blk.cell hfb 0
      have fp := Blk.lt hfb
      simp only [List.getElem?_toArray, List.getElem?_cons_zero] at c0
      have HFl := Lib.hid (Flush_any hD.out (by have := HWs.out k; omega))
      have HCk := layN_calm HCa.out at0 l k
      have HFc : Hid ((layN S at0 l k).fcode = 0) := by show _ = _; unfold DS.fcode; rw [if_neg (by rw [HCk.dead]; decide)]
      clear hfb HCk
      go_wp2_with fail
      refine HFl.out.mono ?_
      rintro e wj ⟨rfl, hdj, hfj⟩
      have hsj := hfj.size
      have hsw := hF.out.size
      have HDk : Hid (DiskOk (Ext R w wj) wj d (layN S at0 l k).flushed) := hdj.more (fun y hy => by
          rcases hy with hy | hy
          · exact .inl hy
          · exact .inr ⟨hy.1, by omega⟩) (fun y hy => by
          rcases hy with hy | hy
          · have := HRl.out y hy; omega
          · exact hy.2)
      have HFk : Hid (FrD R w wj) := FrD.step hF.out (fun i h => h) hfj (fun i hi h => by
        rcases h with h | h
        · exact h
        · omega)
      clear hdj hfj
      rw [HFc.out]
      go_wp2
      go_ret
      exact ⟨rfl, HDk.out, HFk.out⟩
end Go.Proofs.YtccmmnacejdeoaaGreatDoor

/-
  Runs of writes and flushes on a disk that may die; a file's write of some sectors, whatever the fuse.
-/
namespace Go.Proofs.YtccmmnacejdeoaaGreatDoor
set_option linter.unusedSimpArgs false
set_option linter.unusedVariables false
open Go.RowKit

/-- A write of a sector, or a flush. -/
inductive WOp where
  | wr (i : Nat) (s : List UInt8)
  | fl
def WOp.next (S : DS) : WOp → DS
  | .wr i s => S.wr i s
  | .fl => S.flush
/-- Writes and flushes one behind the other, up to the disk's death: what is left of the disk, and the answer. -/
def runs : DS → List WOp → DS × Int
  | S, [] => (S, 0)
  | S, o :: l => if S.dead = true then (S, 50) else runs (o.next S) l
def secOps (i : Nat) (b : List UInt8) : Nat → List WOp
  | 0 => []
  | k + 1 => secOps i b k ++ [.wr (i + k) ((b.drop (64 * k)).take 64)]
theorem runs_append (S : DS) (a b : List WOp) : runs S (a ++ b) = if (runs S a).2 = 0 then runs (runs S a).1 b else runs S a := by
  induction a generalizing S with
  | nil => rfl
  | cons o l ih =>
    show (if S.dead = true then (S, (50 : Int)) else runs (o.next S) (l ++ b)) = _
    by_cases h : S.dead = true
    · rw [if_pos h]
      have : runs S (o :: l) = (S, 50) := by unfold runs; rw [if_pos h]
      rw [this]; rfl
    · rw [if_neg h, ih]
      have : runs S (o :: l) = runs (o.next S) l := by conv => lhs; unfold runs; rw [if_neg h]
      rw [this]
theorem runs_code (S : DS) (l : List WOp) : (runs S l).2 = 0 ∨ (runs S l).2 = 50 := by
  induction l generalizing S with
  | nil => exact .inl rfl
  | cons o l ih =>
    unfold runs
    split
    · exact .inr rfl
    · exact ih _
theorem next_length (S : DS) (o : WOp) : (o.next S).now.length = S.now.length := by
  cases o with
  | wr i s =>
    show (S.wr i s).now.length = _
    unfold DS.wr DS.burn DS.wr0
    split <;> simp
  | fl =>
    show S.flush.now.length = _
    unfold DS.flush DS.burn DS.flush0
    split <;> rfl
theorem next_waits (S : DS) (o : WOp) : (o.next S).waits.length ≤ S.waits.length + 1 := by
  cases o with
  | wr i s =>
    show (S.wr i s).waits.length ≤ _
    unfold DS.wr DS.burn DS.wr0
    split <;> simp
  | fl =>
    show S.flush.waits.length ≤ _
    unfold DS.flush DS.burn DS.flush0
    split <;> simp
theorem runs_length (S : DS) (l : List WOp) : (runs S l).1.now.length = S.now.length := by
  induction l generalizing S with
  | nil => rfl
  | cons o l ih =>
    unfold runs
    split
    · rfl
    · rw [ih, next_length]
theorem runs_waits (S : DS) (l : List WOp) : (runs S l).1.waits.length ≤ S.waits.length + l.length := by
  induction l generalizing S with
  | nil => exact Nat.le_refl _
  | cons o l ih =>
    unfold runs
    split
    · simp
    · have := ih (o.next S); have := next_waits S o; rw [List.length_cons]; omega
theorem secOps_length (i : Nat) (b : List UInt8) : ∀ k, (secOps i b k).length = k
  | 0 => rfl
  | k + 1 => by rw [secOps, List.length_append, secOps_length i b k]; rfl
theorem secOps_split (i : Nat) (b : List UInt8) (j : Nat) : ∀ n, j ≤ n → ∃ r, secOps i b n = secOps i b j ++ r
  | 0, h => by obtain rfl : j = 0 := by omega
               exact ⟨[], (List.append_nil _).symm⟩
  | n + 1, h => by
    by_cases e : j = n + 1
    · subst e; exact ⟨[], (List.append_nil _).symm⟩
    · obtain ⟨r, hr⟩ := secOps_split i b j n (by omega)
      exact ⟨r ++ [.wr (i + n) ((b.drop (64 * n)).take 64)], by rw [secOps, hr, List.append_assoc]⟩
/-- A run that is over stays over. -/
theorem runs_stuck {S : DS} {a b : List WOp} (h : ∃ r, b = a ++ r) (hc : (runs S a).2 ≠ 0) : runs S b = runs S a := by
  obtain ⟨r, rfl⟩ := h
  rw [runs_append, if_neg hc]
theorem runs_one (S : DS) (o : WOp) : runs S [o] = if S.dead = true then (S, 50) else (o.next S, 0) := rfl
theorem runs_snoc {S : DS} {a : List WOp} (h : (runs S a).2 = 0) (o : WOp) : runs S (a ++ [o]) = if (runs S a).1.dead = true then ((runs S a).1, 50) else (o.next (runs S a).1, 0) := by
  rw [runs_append, if_pos h, runs_one]

set_option maxHeartbeats 1600000 in
set_option maxRecDepth 100000 in
theorem pgWrite_run {R : Nat → Prop} {w : World} {p d at0 pages turn : Nat} {S : DS} (i n : Nat) (kb ko c : Nat) (b : List UInt8) (h : FileAt w p d at0 pages turn) (hp : ¬ R p) (hd : DiskOk R w d S) (hb : Bsl w (some ⟨kb, ko, none⟩) c b) (hkb : ¬ R kb) (hbl : b.length = 64 * n) (hn : n ≤ 8) (hi : i + n ≤ S.now.length) (hi2 : i ≤ 70000) (hwl : S.waits.length ≤ 1000000) :
    Calls Tryz.prog 65 #[.pointer (some ⟨p, 0, none⟩), .int .i64 i, .slice (some ⟨kb, ko, none⟩) b.length c] w fun e w' => e = .returned (.int .i64 (runs S (secOps i b n)).2) ∧ DiskOk (Ext R w w') w' d (runs S (secOps i b n)).1 ∧ FrD R w w' := by
  have qL := len_by
  have HB := Lib.hid hb
  have hcp := hb.le
  have hkl := hb.lt _ rfl
  have hp0 := h.lt
  have H := Lib.hid h
  have HRl : Hid (∀ x, R x → x < w.heap.size) := fun x hx => hd.lt hx
  have HD0 : Hid (DiskOk (Ext R w w) w d (runs S (secOps i b 0)).1) := hd.ext (Nat.le_refl _) hd
  have HWs : Hid (∀ k, (runs S (secOps i b k)).1.waits.length ≤ S.waits.length + k) := fun k => by have := runs_waits S (secOps i b k); rwa [secOps_length] at this
  have HWl : Hid (∀ k, (runs S (secOps i b k)).1.now.length = S.now.length) := fun k => runs_length S _
  have HBl := Lib.hid hbl
  rw [hbl] at hcp
  rw [hbl]
  obtain ⟨m, hm⟩ : ∃ m, 64 * n = m := ⟨_, rfl⟩
  rw [hm] at hcp
  rw [hm]
  clear h hd hb hbl
  go_enter Tryz.func65, Tryz.ntmps65
  go_wp2
  go_loopw [7, 8] (fun iv _ wr => ∃ k : Nat, k ≤ n ∧ iv = .int .i64 (64 * k : Nat) ∧ Hid (DiskOk (Ext R w wr) wr d (runs S (secOps i b k)).1) ∧ Hid ((runs S (secOps i b k)).2 = 0) ∧ Hid (FrD R w wr)) (fun iv _ _ => 600 - (intOf iv).toNat)
  case atStart => exact ⟨0, by omega, rfl, HD0, rfl, Fr.refl _ _⟩
  case round =>
    clear HD0
    obtain ⟨k, hk, rfl, hD, hC0, hF⟩ := hrel
    by_cases hlt : k < n
    · have hfb := H.out.fr hF.out.fr hp
      have HFb := Lib.hid hfb
      have hcut := bytesIn_part' (HB.out.h.fr hF.out.fr (fun a ha => by injection ha with ha; subst ha; exact hkb)) (64 * k) (m - 64 * k) (by rw [HBl.out]; omega)
      have hs : BytesIn wr (some ⟨kb, ko + 64 * k, none⟩) ((b.drop (64 * k)).take 64) := bytesIn_take hcut 64
      have hslen : ((b.drop (64 * k)).take 64).length = 64 := by rw [List.length_take, List.length_drop, HBl.out]; omega
      have hkl2 : kb < wr.heap.size := Nat.lt_of_lt_of_le hkl hF.out.size
      have HWr : Hid (∀ (W : World) cc, Fr Nob wr W → Calls Tryz.prog 74 #[.pointer (some ⟨d, 0, none⟩), .int .i64 (i + k : Nat), .slice (some ⟨kb, ko + 64 * k, none⟩) 64 cc] W fun e w' => e = .returned (.int .i64 (runs S (secOps i b (k + 1))).2) ∧ DiskOk (Ext (Ext R w wr) W w') w' d (runs S (secOps i b (k + 1))).1 ∧ FrD (Ext R w wr) W w') := by
        intro W cc hW
        have h1 := HWl.out k
        have h2 := HWs.out k
        rw [show secOps i b (k + 1) = secOps i b k ++ [.wr (i + k) ((b.drop (64 * k)).take 64)] from rfl, runs_snoc hC0.out]
        by_cases hdd : (runs S (secOps i b k)).1.dead = true
        · rw [if_pos hdd]
          refine (Write_dead (i + k : Nat) _ cc (hD.out.new hW) (by omega) (by omega) hdd).mono ?_
          rintro e w' ⟨rfl, rfl⟩
          exact ⟨rfl, (hD.out.new hW).ext (Nat.le_refl _) (hD.out.new hW), Fr.refl _ _⟩
        · rw [if_neg hdd]
          exact Write_goodD (i + k) ⟨kb, ko + 64 * k, none⟩ cc ((b.drop (64 * k)).take 64) (hD.out.new hW) (by omega) (by simpa using hdd) hslen (fun j u hu => bytesIn_cells (hs.new hW) j u hu) (Nat.lt_of_lt_of_le hkl2 hW.size) (by omega)
      have f0 := hfb.cell 0
      have fp := hfb.lt
      simp only [List.getElem?_toArray, List.getElem?_cons_zero] at f0
      have t1 : ((64 * k : Nat) : Int) < (m : Int) := by omega
      have t2 : ((64 * k : Nat) : Int).tdiv 64 = (k : Int) := by rw [Int.tdiv_eq_ediv_of_nonneg (by omega)]; omega
      have t3 : ((64 * k : Nat) : Int) + 64 = ((64 * (k + 1) : Nat) : Int) := by omega
      have t4 : IntKind.i64.wrap (((64 * (k + 1) : Nat)) : Int) = ((64 * (k + 1) : Nat) : Int) := by rw [IntKind.wrap_i64]; omega
      have t5 : (i : Int) + (k : Int) = ((i + k : Nat) : Int) := by omega
      have t6 : IntKind.i64.wrap ((i + k : Nat) : Int) = ((i + k : Nat) : Int) := by rw [IntKind.wrap_i64]; omega
      have t7 : (64 * (k + 1)) ≤ m := by omega
      have t8 : 64 * (k + 1) - 64 * k = 64 := by omega
      obtain ⟨q, hq⟩ : ∃ q, 64 * k = q := ⟨_, rfl⟩
      obtain ⟨q', hq'⟩ : ∃ q, 64 * (k + 1) = q := ⟨_, rfl⟩
      obtain ⟨ik, hik⟩ : ∃ q, i + k = q := ⟨_, rfl⟩
      rw [hq] at HWr t1 t2 t3 t8 ⊢
      rw [hq'] at t3 t4 t7 t8
      rw [hik] at HWr t5 t6
      have HQ' := Lib.hid hq'
      have HQ := Lib.hid hq
      have hqm : q ≤ 448 := by omega
      clear hcut hs hslen hfb hq hq' hik
      go_wp2
      have hS : Fr Nob wr wr.drew := (Fr.refl _ wr).drew
      have hpE : ¬ Ext R w wr p := fun h => by rcases h with h | h; exact hp h; have := hp0; omega
      have hS0 : Fr (fun x => Ext R w wr x) wr wr.drew := (Fr.refl _ wr).drew
      refine Rg.begin' (Fr (fun x => Ext R w wr x) wr) [] (by kernel_rfl) ?_
      refine Rg.op 0 (some 15) hS0 (v := ?v0r4) (a' := ?a0r4) (hy := fun wz hwz => ?h0r4) (ha := ?b0r4) (h := ?_)
      case h0r4 => (go_simp; try with_reducible rfl)
      case b0r4 => (simp only [Act.put, List.setIfInBounds_toArray, List.set_cons_zero, List.set_cons_succ]; rfl)
      refine Rg.op 1 (some 16) hS0 (v := ?v1r4) (a' := ?a1r4) (hy := fun wz hwz => ?h1r4) (ha := ?b1r4) (h := ?_)
      case h1r4 => (go_simp; try with_reducible rfl)
      case b1r4 => (simp only [Act.put, List.setIfInBounds_toArray, List.set_cons_zero, List.set_cons_succ]; rfl)
      refine Rg.op 2 (some 17) hS0 (v := ?v2r4) (a' := ?a2r4) (hy := fun wz hwz => ?h2r4) (ha := ?b2r4) (h := ?_)
      case h2r4 => (go_simp; try with_reducible rfl)
      case b2r4 => (simp only [Act.put, List.setIfInBounds_toArray, List.set_cons_zero, List.set_cons_succ]; rfl)
      refine Rg.op 3 (some 18) hS0 (v := ?v3r4) (a' := ?a3r4) (hy := fun wz hwz => ?h3r4) (ha := ?b3r4) (h := ?_)
      case h3r4 => (have hb := (HFb.out.fr hwz (fun h => hpE h)); have cc := Blk.cell hb 0; have hpp := Blk.lt hb; simp only [List.getElem?_toArray, List.getElem?_cons_zero] at cc; clear hb; go_simp; try with_reducible rfl)
      case b3r4 => (simp only [Act.put, List.setIfInBounds_toArray, List.set_cons_zero, List.set_cons_succ]; rfl)
      refine Rg.op 4 (some 19) hS0 (v := ?v4r4) (a' := ?a4r4) (hy := fun wz hwz => ?h4r4) (ha := ?b4r4) (h := ?_)
      case h4r4 => (go_simp; try with_reducible rfl)
      case b4r4 => (simp only [Act.put, List.setIfInBounds_toArray, List.set_cons_zero, List.set_cons_succ]; rfl)
      refine Rg.op 5 (some 20) hS0 (v := ?v5r4) (a' := ?a5r4) (hy := fun wz hwz => ?h5r4) (ha := ?b5r4) (h := ?_)
      case h5r4 => (go_simp; try with_reducible rfl)
      case b5r4 => (simp only [Act.put, List.setIfInBounds_toArray, List.set_cons_zero, List.set_cons_succ]; rfl)
      refine Rg.op 6 (some 21) hS0 (v := (.int .i64 k)) (a' := ?a6r4) (hy := fun wz hwz => ?h6r4) (ha := ?b6r4) (h := ?_)
      case h6r4 => (have y1 := t2; have y2 : IntKind.i64.wrap (k : Int) = (k : Int) := (by rw [IntKind.wrap_i64]; omega); go_simp; try with_reducible rfl)
      case b6r4 => (simp only [Act.put, List.setIfInBounds_toArray, List.set_cons_zero, List.set_cons_succ]; rfl)
      refine Rg.op 7 (some 22) hS0 (v := (.int .i64 ik)) (a' := ?a7r4) (hy := fun wz hwz => ?h7r4) (ha := ?b7r4) (h := ?_)
      case h7r4 => (have y1 := t5; have y2 := t6; go_simp; try with_reducible rfl)
      case b7r4 => (simp only [Act.put, List.setIfInBounds_toArray, List.set_cons_zero, List.set_cons_succ]; rfl)
      refine Rg.op 8 (some 23) hS0 (v := ?v8r4) (a' := ?a8r4) (hy := fun wz hwz => ?h8r4) (ha := ?b8r4) (h := ?_)
      case h8r4 => (go_simp; try with_reducible rfl)
      case b8r4 => (simp only [Act.put, List.setIfInBounds_toArray, List.set_cons_zero, List.set_cons_succ]; rfl)
      refine Rg.op 9 (some 24) hS0 (v := ?v9r4) (a' := ?a9r4) (hy := fun wz hwz => ?h9r4) (ha := ?b9r4) (h := ?_)
      case h9r4 => (go_simp; try with_reducible rfl)
      case b9r4 => (simp only [Act.put, List.setIfInBounds_toArray, List.set_cons_zero, List.set_cons_succ]; rfl)
      refine Rg.op 10 (some 25) hS0 (v := ?v10r4) (a' := ?a10r4) (hy := fun wz hwz => ?h10r4) (ha := ?b10r4) (h := ?_)
      case h10r4 => (go_simp; try with_reducible rfl)
      case b10r4 => (simp only [Act.put, List.setIfInBounds_toArray, List.set_cons_zero, List.set_cons_succ]; rfl)
      refine Rg.op 11 (some 26) hS0 (v := (.int .i64 q')) (a' := ?a11r4) (hy := fun wz hwz => ?h11r4) (ha := ?b11r4) (h := ?_)
      case h11r4 => (have y1 := t3; have y2 := t4; go_simp; try with_reducible rfl)
      case b11r4 => (simp only [Act.put, List.setIfInBounds_toArray, List.set_cons_zero, List.set_cons_succ]; rfl)
      refine Rg.op 12 (some 27) hS0 (v := (.slice (some ⟨kb, ko + q, none⟩) 64 (c - q))) (a' := ?a12r4) (hy := fun wz hwz => ?h12r4) (ha := ?b12r4) (h := ?_)
      case h12r4 => (have z1 : (0 : Int) ≤ (q : Int) := (by omega); have z2 : (q : Int) ≤ (q' : Int) := (by omega); have z3 : (q' : Int) ≤ (c : Int) := (by omega); have z4 : ¬ c = q := (by omega); have z5 := t8; go_simp; try with_reducible rfl)
      case b12r4 => (simp only [Act.put, List.setIfInBounds_toArray, List.set_cons_zero, List.set_cons_succ]; rfl)
      refine Rg.call 13 (some 28) (hrun := ?h13r4) (hcall := HWr.out _ (c - q) hS) (h := ?_)
      case h13r4 => (go_simp)
      rintro e w1 ⟨rfl, hd1, hf1⟩
      have HD1 := Lib.hid hd1
      have HF1 := Lib.hid hf1
      have hT : Fr (fun x => Ext R w wr x) wr w1 := hS0.step hf1.fr (fun i _ h => h)
      refine ⟨_, ?a13r4, rfl, ?b13r4, (fun _ => hT), ?_⟩
      case b13r4 => (simp only [Act.put, List.setIfInBounds_toArray, List.set_cons_zero, List.set_cons_succ]; rfl)
      refine Rg.op 14 (some 8) hT (v := ?v14r4) (a' := ?a14r4) (hy := fun wz hwz => ?h14r4) (ha := ?b14r4) (h := ?_)
      case h14r4 => (go_simp; try with_reducible rfl)
      case b14r4 => (simp only [Act.put, List.setIfInBounds_toArray, List.set_cons_zero, List.set_cons_succ]; rfl)
      refine Rg.done _ (h := ?_)
      have hsz0 := hF.out.size
      have hsz1 : wr.heap.size ≤ w1.heap.size := HF1.out.size
      have hdz : wr.drew.heap.size = wr.heap.size := rfl
      have HDk : Hid (DiskOk (Ext R w w1) w1 d (runs S (secOps i b (k + 1))).1) := HD1.out.more (fun x hx => by
        rcases hx with (hx | hx) | hx
        · exact .inl hx
        · exact .inr ⟨hx.1, by omega⟩
        · exact .inr ⟨by omega, hx.2⟩) (fun x hx => by
        rcases hx with hx | hx
        · have := HRl.out x hx; omega
        · exact hx.2)
      have HFk : Hid (FrD R w w1) := FrD.step (Fr.drew hF.out) (fun i h => h) HF1.out (fun i hi h => by
        rcases h with h | h
        · exact h
        · omega)
      clear HD1 HF1 hT hS hS0 hC0
      obtain ⟨cd, hcd⟩ : ∃ cd, (runs S (secOps i b (k + 1))).2 = cd := ⟨_, rfl⟩
      rw [hcd]
      have HCd := Lib.hid hcd
      rcases (by have := runs_code S (secOps i b (k + 1)); rw [hcd] at this; exact this : cd = 0 ∨ cd = 50) with h0 | h50
      · subst h0
        clear hcd
        go_wp2
        go_roundw
        case rel => exact ⟨k + 1, by omega, by rw [HQ'.out], HDk, HCd.out, HFk⟩
        case measure => simp [intOf]; omega
      · subst h50
        have HE : Hid (runs S (secOps i b n) = runs S (secOps i b (k + 1))) := runs_stuck (secOps_split i b (k + 1) n (by omega)) (by rw [hcd]; decide)
        clear hcd
        go_wp2
        go_ret
        rw [HE.out, HCd.out]
        exact ⟨rfl, HDk.out, HFk.out⟩
    · obtain rfl : k = n := by omega
      have t1 : ¬ ((64 * k : Nat) : Int) < (m : Int) := by omega
      obtain ⟨q, hq⟩ : ∃ q, 64 * k = q := ⟨_, rfl⟩
      rw [hq] at t1 ⊢
      go_wp2
      try (rw [qL]; go_wp2)
      go_ret
      rw [hC0.out]
      exact ⟨rfl, hD.out, hF.out⟩
end Go.Proofs.YtccmmnacejdeoaaGreatDoor
