/-
  WalStream, WalAdd, in one text.
-/
import Derived.Test.YtccmmnacejdeoaaGreatDoorMg08
import Derived.Test.YtccmmnacejdeoaaGreatDoorMg07
/-
  All bytes from where a log begins: stream.
-/
namespace Go.Proofs.YtccmmnacejdeoaaGreatDoor
set_option linter.unusedSimpArgs false
set_option linter.unusedVariables false
open Go.RowKit

/-- Is it a sector that was written whole? -/
def pGood (b : List UInt8) : Bool := decide (pN b ≤ 48) && pOk b
theorem pGood_le {b : List UInt8} (h : pGood b = true) : pN b ≤ 48 ∧ pOk b = true := by
  unfold pGood at h
  simpa using h
theorem pOwn_length {b : List UInt8} (h : pN b ≤ 48) (hl : b.length = 64) : (pOwn b).length = pN b := by
  unfold pOwn
  rw [List.length_take, List.length_drop]
  omega
theorem parse_good (g : Nat) (b : List UInt8) (w : World) (hb : Blk w g 5 (bts b).toArray) (hl : b.length = 64) (h : pGood b = true) :
    Calls Tryz.prog 71 #[.slice (some ⟨g, 0, none⟩) 64 64] w fun e w' => e = .returned (.tuple #[.int .u64 (pNo b), .int .u64 (pLife b), .slice (some ⟨g, 16, none⟩) (pN b) 48, .bool true]) ∧ Fr Nob w w' := by
  refine (parse_any g b w hb hl).mono ?_
  rintro e w' ⟨rfl, hf⟩
  obtain ⟨h1, h2⟩ := pGood_le h
  unfold parsed
  rw [if_neg (by omega), h2]
  exact ⟨rfl, hf⟩
theorem parse_bad (g : Nat) (b : List UInt8) (w : World) (hb : Blk w g 5 (bts b).toArray) (hl : b.length = 64) (h : pGood b = false) :
    Calls Tryz.prog 71 #[.slice (some ⟨g, 0, none⟩) 64 64] w fun e w' => ∃ x y A n c, e = .returned (.tuple #[.int .u64 x, .int .u64 y, .slice A n c, .bool false]) ∧ Fr Nob w w' := by
  refine (parse_any g b w hb hl).mono ?_
  rintro e w' ⟨rfl, hf⟩
  unfold parsed
  by_cases h1 : 48 < pN b
  · rw [if_pos h1]; exact ⟨_, _, _, _, _, rfl, hf⟩
  · rw [if_neg h1]
    have : pOk b = false := by
      unfold pGood at h
      rw [decide_eq_true (by omega)] at h
      simpa using h
    rw [this]
    exact ⟨_, _, _, _, _, rfl, hf⟩

structure St where
  out : List UInt8
  life : Nat
  ml : Nat
  op : Bool
def St.step (s : St) (x : Nat) (b : List UInt8) : St :=
  if s.op = true ∧ pGood b = true ∧ pNo b = x ∧ s.life ≤ pLife b then ⟨s.out ++ pOwn b, pLife b, max s.ml (pLife b), ((pN b : Int) == 48)⟩
  else ⟨s.out, s.life, if pGood b = true then max s.ml (pLife b) else s.ml, false⟩
def LS.str (L : LS) (S : DS) : Nat → St
  | 0 => ⟨[], 0, L.life, true⟩
  | k + 1 => (LS.str L S k).step (L.fin / 48 + k) (S.now.getD (L.place (L.fin / 48 + k)) [])
/-- What stream hands back. -/
def LS.bytes (L : LS) (S : DS) : List UInt8 := (L.str S (L.n - 2)).out.drop (L.fin % 48)
/-- .. and what it leaves. -/
def LS.streamed (L : LS) (S : DS) : LS := { L with life := (L.str S (L.n - 2)).ml }

theorem St.step_bounds {s : St} (x k : Nat) (b : List UInt8) (hl : b.length = 64) (h : s.out.length ≤ 48 * k ∧ s.life < 18446744073709551616 ∧ s.ml < 18446744073709551616) :
    (s.step x b).out.length ≤ 48 * (k + 1) ∧ (s.step x b).life < 18446744073709551616 ∧ (s.step x b).ml < 18446744073709551616 := by
  have hp : pLife b < 18446744073709551616 := getN_lt _
  have hm : max s.ml (pLife b) < 18446744073709551616 := by rw [Nat.max_def]; split <;> omega
  unfold St.step
  split
  · rename_i hc
    have h48 := (pGood_le hc.2.1).1
    refine ⟨?_, hp, hm⟩
    show (s.out ++ pOwn b).length ≤ _
    rw [List.length_append, pOwn_length h48 hl]
    omega
  · refine ⟨?_, h.2.1, ?_⟩
    · show s.out.length ≤ _; omega
    · show (if pGood b = true then max s.ml (pLife b) else s.ml) < _
      split
      · exact hm
      · exact h.2.2
theorem LS.str_bounds {L : LS} {S : DS} (hS : ∀ (i : Nat) (s : List UInt8), S.now[i]? = some s → s.length = 64) (hf : L.start + L.n ≤ S.now.length) (hn : 16 ≤ L.n) (hl : L.life < 18446744073709551616) (k : Nat) :
    (L.str S k).out.length ≤ 48 * k ∧ (L.str S k).life < 18446744073709551616 ∧ (L.str S k).ml < 18446744073709551616 := by
  induction k with
  | zero => exact ⟨Nat.le_refl _, by show 0 < _; omega, hl⟩
  | succ k ih =>
    have hp : L.place (L.fin / 48 + k) < S.now.length := by
      unfold LS.place
      have := Nat.mod_lt (L.fin / 48 + k) (show 0 < L.n - 2 by omega)
      omega
    have hb : S.now[L.place (L.fin / 48 + k)]? = some (S.now.getD (L.place (L.fin / 48 + k)) []) := by
      rw [List.getD_eq_getElem?_getD, List.getElem?_eq_getElem hp]; rfl
    exact St.step_bounds _ k _ (hS _ _ hb) ih

set_option maxHeartbeats 1600000 in
set_option maxRecDepth 100000 in
theorem stream_any {w : World} {p d : Nat} {L : LS} {S : DS} {R RD : Nat → Prop} (h : WalIn w p d L S R RD) (hdead : S.dead = false) :
    Calls Tryz.prog 45 #[.pointer (some ⟨p, 0, none⟩)] w fun e w' => ∃ A c, e = .returned (.tuple #[.slice A (L.bytes S).length c, .int .i64 0]) ∧ BytesIn w' A (L.bytes S) ∧ (L.bytes S).length ≤ c ∧ (∀ a, A = some a → w.heap.size ≤ a.block ∧ a.block < w'.heap.size) ∧ WalIn w' p d (L.streamed S) S R RD ∧ Fr (fun b => b = p) w w' := by
  obtain ⟨i0, hi0, hz0, hz1, hz2⟩ := info_parts info_u8
  obtain ⟨lv, rv, hL⟩ := h.l
  have hn0 := hL.n0
  have hn1 := hL.n1
  have hfin := hL.b4
  have HB := Lib.hid (LS.str_bounds (L := L) (S := S) (fun i s hs => h.d.len64 hs) h.fits hL.n0 hL.b6)
  have HRg : Hid (Calls Tryz.prog 69 #[.pointer (some ⟨p, 0, none⟩)] w fun e w' => e = .returned (.int .u64 ((L.n - 2 : Nat))) ∧ w = w') := ring_any h.l
  have hbk := hL.blk
  have c7 := hbk.cell 7
  simp only [List.getElem?_toArray, List.getElem?_cons_zero, List.getElem?_cons_succ] at c7
  have hp := hbk.lt
  have HL0 : Hid (LogAt R w p d lv rv { L with life := (L.str S 0).ml }) := hL
  have HD0 : Hid (DiskOk RD w d S) := h.d
  have HF0 : Hid (Fr (fun b => b = p) w w) := Fr.refl _ _
  have HO0 : Hid (w.ownsRow w.heap.size 5 1 (.slice none 0 0) (L.str S 0).out.length (bts (L.str S 0).out)) := World.ownsRow_nil _ _ _ _
  have hap : ¬ RD p := h.apart p hL.rp
  have hplr : ∀ x, L.place x < S.now.length := fun x => by
    unfold LS.place
    have := Nat.mod_lt x (show 0 < L.n - 2 by omega)
    have := h.fits
    omega
  have HPl := Lib.hid hplr
  have H := Lib.hid h
  have Hd := Lib.hid hdead
  clear h hL hbk hdead hplr
  obtain ⟨r, hr⟩ : ∃ r, L.n - 2 = r := ⟨_, rfl⟩
  have HrL := Lib.hid hr
  rw [hr] at HRg
  have r0 : 14 ≤ r := by omega
  have r1 : r ≤ 32766 := by omega
  clear hr
  obtain ⟨no, hno⟩ : ∃ no, L.fin / 48 = no := ⟨_, rfl⟩
  have e0 : (L.fin : Int) / 48 = (no : Int) := by omega
  have hno1 : no ≤ 384307168202282325 := by omega
  have HNo := Lib.hid hno
  clear hno
  go_enter Tryz.func45, Tryz.ntmps45
  go_wp2_with (go_at_call 69; refine HRg.out.mono ?_; rintro e w' ⟨rfl, rfl⟩)
  go_loopw [4, 5, 7, 8, 9, 10, 11, 12, 13, 14, 22] (fun out li op _ _ _ _ _ _ _ i wr => ∃ (k : Nat) (s : St), k ≤ r ∧ Hid (L.str S k = s) ∧ i = .int .u64 k ∧ li = .int .u64 s.life ∧ op = .bool s.op ∧ Hid (wr.ownsRow w.heap.size 5 1 out s.out.length (bts s.out)) ∧ Hid (LogAt R wr p d lv rv { L with life := s.ml }) ∧ Hid (DiskOk RD wr d S) ∧ Hid (Fr (fun b => b = p) w wr)) (fun _ _ _ _ _ _ _ _ _ _ i _ => r - (intOf i).toNat)
  case atStart => exact ⟨0, L.str S 0, by omega, Lib.hid rfl, rfl, rfl, rfl, HO0, HL0, HD0, HF0⟩
  case round =>
    clear HL0 HD0 HF0 HO0 HRg c7
    obtain ⟨k, s, hk, hs, rfl, rfl, rfl, hO, hL, hD, hF⟩ := hrel
    have hsb := HB.out k
    rw [hs.out] at hsb
    have hpr : p < _ := hL.out.blk.lt
    by_cases hlt : k < r
    · obtain ⟨b, hb⟩ : ∃ b, S.now.getD (L.place (no + k)) [] = b := ⟨_, rfl⟩
      have hsn : S.now[L.place (no + k)]? = some b := by
        rw [← hb, List.getD_eq_getElem?_getD, List.getElem?_eq_getElem (HPl.out _)]; rfl
      have hl64 := hD.out.len64 hsn
      have hst : L.str S (k + 1) = s.step (no + k) b := by
        show (L.str S k).step (L.fin / 48 + k) _ = _
        rw [hs.out, HNo.out, hb]
      have HSn := Lib.hid hsn
      have HSt := Lib.hid hst
      have HL64 := Lib.hid hl64
      clear hb hsn hst hl64
      go_wp2
      have hS : Fr Nob wr wr.drew := (Fr.refl _ wr).drew
      refine Rg.begin (Fr Nob wr) [] (by kernel_rfl) ?_
      refine Rg.op 0 (some 26) hS (v := ?v0) (hy := fun wz hwz => ?h0) (h := ?_)
      case h0 => (go_simp; try with_reducible rfl)
      refine Rg.op 1 (some 27) hS (v := ?v1) (hy := fun wz hwz => ?h1) (h := ?_)
      case h1 => (have hb := (hL.out.blk.fr hwz (fun h => h)); have c0 := hb.cell 0; have hp := hb.lt; simp only [List.getElem?_toArray, List.getElem?_cons_zero, List.getElem?_cons_succ] at c0; clear hb; go_simp; try with_reducible rfl)
      refine Rg.op 2 (some 28) hS (v := ?v2) (hy := fun wz hwz => ?h2) (h := ?_)
      case h2 => (go_simp; try with_reducible rfl)
      refine Rg.op 3 (some 29) hS (v := ?v3) (hy := fun wz hwz => ?h3) (h := ?_)
      case h3 => (have hb := (hL.out.blk.fr hwz (fun h => h)); have c0 := hb.cell 0; have hp := hb.lt; simp only [List.getElem?_toArray, List.getElem?_cons_zero, List.getElem?_cons_succ] at c0; clear hb; go_simp; try with_reducible rfl)
      refine Rg.op 4 (some 30) hS (v := ?v4) (hy := fun wz hwz => ?h4) (h := ?_)
      case h4 => (go_simp; try with_reducible rfl)
      refine Rg.op 5 (some 31) hS (v := ?v5) (hy := fun wz hwz => ?h5) (h := ?_)
      case h5 => (go_simp; try with_reducible rfl)
      refine Rg.op 6 (some 32) hS (v := ?v6) (hy := fun wz hwz => ?h6) (h := ?_)
      case h6 => (go_simp; try with_reducible rfl)
      refine Rg.op 7 (some 33) hS (v := (.int .u64 ((no + k : Nat) : Int))) (hy := fun wz hwz => ?h7) (h := ?_)
      case h7 => (have e7 : IntKind.u64.wrap ((no : Int) + (k : Int)) = ((no + k : Nat) : Int) := (by rw [IntKind.wrap_u64]; omega); go_simp; try with_reducible rfl)
      refine Rg.call 8 (some 34) (hrun := ?h8) (hcall := place_any (no + k) (LogOk.new (L := { L with life := s.ml }) ⟨lv, rv, hL.out⟩ hS) (by omega)) (h := ?_)
      case h8 => (go_simp)
      rintro e w5 ⟨rfl, hf5⟩
      have hS5 : Fr Nob wr w5 := hS.trans hf5
      clear hf5
      refine ⟨_, ?a8, rfl, ?b8, (fun _ => hS5), ?_⟩
      case b8 => (simp only [Act.put, List.setIfInBounds_toArray, List.set_cons_zero, List.set_cons_succ]; rfl)
      refine Rg.call 9 (some 35) (hrun := ?h9) (hcall := Read_good (L.place (no + k)) b (hD.out.new hS5) Hd.out HSn.out) (h := ?_)
      case h9 => (go_simp; rfl)
      rintro e w6 ⟨rfl, hr6, hf6⟩
      obtain ⟨g6, hg6⟩ : ∃ g6, w5.heap.size = g6 := ⟨_, rfl⟩
      rw [hg6] at hr6 ⊢
      have hg6w : w.heap.size ≤ g6 := by have := hF.out.size; have := hS5.size; omega
      have hg6r : wr.heap.size ≤ g6 := by have := hS5.size; omega
      clear hg6
      have hS6 : Fr Nob wr w6 := hS5.trans hf6
      have HR6 := Lib.hid hr6
      clear hr6 hf6
      refine ⟨_, ?a9, rfl, ?b9, (fun _ => hS6), ?_⟩
      case b9 => (simp only [Act.put, List.setIfInBounds_toArray, List.set_cons_zero, List.set_cons_succ]; rfl)
      refine Rg.op 10 (some 25) hS6 (v := ?v10) (hy := fun wz hwz => ?h10) (h := ?_)
      case h10 => (go_simp; try with_reducible rfl)
      refine Rg.op 11 (some 36) hS6 (v := ?v11) (hy := fun wz hwz => ?h11) (h := ?_)
      case h11 => (go_simp; try with_reducible rfl)
      refine Rg.op 12 (some 37) hS6 (v := ?v12) (hy := fun wz hwz => ?h12) (h := ?_)
      case h12 => (go_simp; try with_reducible rfl)
      refine Rg.op 13 (some 9) hS6 (v := ?v13) (hy := fun wz hwz => ?h13) (h := ?_)
      case h13 => (go_simp; try with_reducible rfl)
      refine Rg.op 14 (some 10) hS6 (v := ?v14) (hy := fun wz hwz => ?h14) (h := ?_)
      case h14 => (go_simp; try with_reducible rfl)
      refine Rg.done _ (h := ?_)
      have hL6 := Lib.hid (hL.out.fr hS6 (fun _ _ h => h))
      have hD6 := Lib.hid (hD.out.new hS6)
      have hF6 := Lib.hid (hF.out.trans (hS6.mono (fun _ _ h => h.elim)))
      have hO6 := Lib.hid (own_fr hO.out hS6 (fun _ _ h => h))
      clear hL hD hF hO hS hS5 hS6
      by_cases hg : pGood b = true
      · have hpc := parse_good g6 b w6 HR6.out HL64.out hg
        have Hpc := Lib.hid hpc
        have h48 := (pGood_le hg).1
        have hpl : pLife b < 18446744073709551616 := getN_lt _
        have hpn : pNo b < 18446744073709551616 := getN_lt _
        have HG := Lib.hid hg
        clear hpc hg
        go_wp2_with fail
        refine Hpc.out.mono ?_
        rintro e w7 ⟨rfl, hf7⟩
        have hbk := hL6.out.blk.fr hf7 (fun h => h)
        have c9 := hbk.cell 9
        have q9 := hbk.frozen 9
        have hp7 := hbk.lt
        simp only [List.getElem?_toArray, List.getElem?_cons_zero, List.getElem?_cons_succ] at c9
        clear hbk
        have hRp : R p := hL6.out.rp
        have HUp : Hid (∀ W, W = w7.setCell ⟨p, 9, none⟩ (.int .u64 (max (s.ml : Int) (pLife b : Int))) → W.ownsRow w.heap.size 5 1 u4 s.out.length (bts s.out) ∧ LogAt R W p d lv rv { L with life := max s.ml (pLife b) } ∧ DiskOk RD W d S ∧ Fr (fun b => b = p) w W ∧ Row64 W g6 b) := by
          rintro W rfl
          have em : (max (s.ml : Int) (pLife b : Int)) = ((max s.ml (pLife b) : Nat) : Int) := by omega
          rw [em]
          have hf : Fr (fun b => b = p) w7 (w7.setCell ⟨p, 9, none⟩ (.int .u64 ((max s.ml (pLife b) : Nat) : Int))) := (Fr.refl (fun b => b = p) w7).setCell (p := ⟨p, 9, none⟩) (.inr rfl) _
          have hl7 := hL6.out.fr hf7 (fun _ _ h => h)
          have hm : max s.ml (pLife b) < 18446744073709551616 := by rw [Nat.max_def]; split <;> omega
          exact ⟨own_set (own_fr hO6.out hf7 (fun _ _ h => h)) hl7.blk (by decide), hl7.upd hf _ _ _ _ _ _ _ _ hl7.b1 hl7.b2 hl7.b3 hl7.b4 hl7.b5 hm hl7.b7 (hl7.blk.set_ 9 _), (hD6.out.new hf7).fr hf (fun x hx e => hap (by subst e; exact hx)), (hF6.out.trans (hf7.mono (fun _ _ h => h.elim))).trans hf, (Row64.fr HR6.out hf7 (fun h => h)).far (p := ⟨p, 9, none⟩) (by rintro rfl; exact absurd hp (by omega)) _⟩
        clear HR6 hO6 hD6 hF6 hf7
        have HN : Hid (¬ (s.op = true ∧ pGood b = true ∧ pNo b = no + k ∧ s.life ≤ pLife b) → L.str S (k + 1) = ⟨s.out, s.life, max s.ml (pLife b), false⟩) := by
          intro h
          rw [HSt.out]
          unfold St.step
          rw [if_neg h, if_pos HG.out]
        clear hL6
        by_cases hop : s.op = true
        · by_cases q1 : pNo b = no + k
          · have t1 : ((pNo b : Int) == (no : Int) + (k : Int)) = true := by rw [beq_iff_eq]; omega
            by_cases q2 : s.life ≤ pLife b
            · have t2 : decide (s.life ≤ pLife b) = true := by simpa using q2
              have HY : Hid (L.str S (k + 1) = ⟨s.out ++ pOwn b, pLife b, max s.ml (pLife b), ((pN b : Int) == 48)⟩) := by
                rw [Hid, HSt.out]
                unfold St.step
                rw [if_pos ⟨hop, HG.out, q1, q2⟩]
              have HOp := Lib.hid hop
              obtain ⟨hu1, hu2, hu3, hu4, hu5⟩ := HUp.out _ rfl
              have hz8 : w.heap.size ≤ (w7.setCell ⟨p, 9, none⟩ (.int .u64 (max (s.ml : Int) (pLife b : Int)))).heap.size := hu4.size
              have hol := pOwn_length h48 HL64.out
              have c1 : Hid ((bts (pOwn b)).length = pN b * 1) := by rw [Hid, bts_length, hol]; omega
              have c2 : Hid (∀ j u, (bts (pOwn b))[j]? = some u → (w7.setCell ⟨p, 9, none⟩ (.int .u64 (max (s.ml : Int) (pLife b : Int)))).cell? ((⟨g6, 16, none⟩ : Addr).add j) = some u) := by
                exact bytesIn_cells (bytesIn_part hu5 16 (pN b))
              have hrow : ∀ x, u4.ownBlock = some x → w.heap.size ≤ x := fun x hx => (hu1.lt x hx).1
              have HNx : Hid (∀ W, (w7.setCell ⟨p, 9, none⟩ (.int .u64 (max (s.ml : Int) (pLife b : Int)))).grownBy W u4.ownBlock → LogAt R W p d lv rv { L with life := max s.ml (pLife b) } ∧ DiskOk RD W d S ∧ Fr (fun b => b = p) w W) := by
                intro W hg
                have hf : Fr (fun x => some x = u4.ownBlock) (w7.setCell ⟨p, 9, none⟩ (.int .u64 (max (s.ml : Int) (pLife b : Int)))) W := (Fr.refl _ (w7.setCell ⟨p, 9, none⟩ (.int .u64 (max (s.ml : Int) (pLife b : Int))))).grown hg (fun k hk => .inr hk.symm)
                exact ⟨hu2.fr hf (fun x hx e => by have := hrow x e.symm; have := H.out.l; obtain ⟨_, _, hl⟩ := this; have := hl.lt x hx; omega), hu3.fr hf (fun x hx e => by have := hrow x e.symm; have := H.out.d.lt hx; omega), hu4.grown hg (fun x hx => .inl (hrow x hx))⟩
              have U1 := Lib.hid hu1
              have HOl := Lib.hid hol
              have hlen : s.out.length + pN b ≤ 3000000 := by omega
              have HR1 := Lib.hid hrow
              clear hu1 hu2 hu3 hu4 hu5 HUp HN hol q1 q2 hrow
              go_wp2_with (at_builtin; go_must (refine wpList_append_own_at _ rfl (.tmp 77) (.tmp 78) 38 rfl w.heap.size 5 i0 (.int .u8 0) 1 1 Tryz.underlying38 hi0 hz0 hz1 hz2 rfl (by decide) u4 s.out.length (bts s.out) rfl U1.out ⟨g6, 16, none⟩ (pN b) 48 (bts (pOwn b)) rfl c1.out c2.out (bts_one (pOwn b)) (by unfold maxLen; omega) (by omega) hz8 ?_); intro v' w9 hown9 hg9 hn9 hat9)
              have hN9 := HNx.out w9 hg9
              have HL9 := Lib.hid hN9.1
              have HD9 := Lib.hid hN9.2.1
              have HF9 := Lib.hid hN9.2.2
              have HO9 : Hid (w9.ownsRow w.heap.size 5 1 v' (s.out ++ pOwn b).length (bts (s.out ++ pOwn b))) := by
                rw [List.length_append, HOl.out, bts_append]
                exact hown9
              clear hN9 hown9 hg9 hn9 hat9 HNx
              go_wp2
              go_roundw
              case rel => exact ⟨k + 1, ⟨s.out ++ pOwn b, pLife b, max s.ml (pLife b), ((pN b : Int) == 48)⟩, by omega, HY, by go_num, rfl, rfl, HO9, HL9, HD9, HF9⟩
              case measure => simp [intOf]; omega
            · have t2 : decide (s.life ≤ pLife b) = false := by simpa using q2
              have HSt7 := Lib.hid (HN.out (fun h => q2 h.2.2.2))
              clear HN q1 q2
              go_wp2
              go_roundw
              case rel => exact ⟨k + 1, ⟨s.out, s.life, max s.ml (pLife b), false⟩, by omega, HSt7, by go_num, rfl, rfl, (HUp.out _ rfl).1, (HUp.out _ rfl).2.1, (HUp.out _ rfl).2.2.1, (HUp.out _ rfl).2.2.2.1⟩
              case measure => simp [intOf]; omega
          · have t1 : ((pNo b : Int) == (no : Int) + (k : Int)) = false := by rw [beq_eq_false_iff_ne]; omega
            have HSt7 := Lib.hid (HN.out (fun h => q1 h.2.2.1))
            clear HN q1
            go_wp2
            go_roundw
            case rel => exact ⟨k + 1, ⟨s.out, s.life, max s.ml (pLife b), false⟩, by omega, HSt7, by go_num, rfl, rfl, (HUp.out _ rfl).1, (HUp.out _ rfl).2.1, (HUp.out _ rfl).2.2.1, (HUp.out _ rfl).2.2.2.1⟩
            case measure => simp [intOf]; omega
        · have hop' : s.op = false := by simpa using hop
          have HSt7 := Lib.hid (HN.out (fun h => hop h.1))
          clear HN hop
          go_wp2
          go_roundw
          case rel => exact ⟨k + 1, ⟨s.out, s.life, max s.ml (pLife b), false⟩, by omega, HSt7, by go_num, rfl, rfl, (HUp.out _ rfl).1, (HUp.out _ rfl).2.1, (HUp.out _ rfl).2.2.1, (HUp.out _ rfl).2.2.2.1⟩
          case measure => simp [intOf]; omega
      · have hg' : pGood b = false := by simpa using hg
        have hpc := parse_bad g6 b w6 HR6.out HL64.out hg'
        have Hpc := Lib.hid hpc
        have hstep : s.step (no + k) b = ⟨s.out, s.life, s.ml, false⟩ := by
          unfold St.step
          rw [if_neg (fun h => hg h.2.1), if_neg hg]
        have Hstep := Lib.hid hstep
        clear hpc hstep hg hg'
        go_wp2_with fail
        refine Hpc.out.mono ?_
        rintro e w7 ⟨x, y, A, n, c, rfl, hf7⟩
        have hL7 := Lib.hid (hL6.out.fr hf7 (fun _ _ h => h))
        have hD7 := Lib.hid (hD6.out.new hf7)
        have hF7 := Lib.hid (hF6.out.trans (hf7.mono (fun _ _ h => h.elim)))
        have hO7 := Lib.hid (own_fr hO6.out hf7 (fun _ _ h => h))
        have HSt7 : Hid (L.str S (k + 1) = ⟨s.out, s.life, s.ml, false⟩) := HSt.out.trans Hstep.out
        clear hL6 hD6 hF6 hO6 hf7 HR6
        rcases hop : s.op with _ | _
        all_goals
          go_wp2
          go_roundw
          case rel => exact ⟨k + 1, ⟨s.out, s.life, s.ml, false⟩, by omega, HSt7, by go_num, rfl, rfl, hO7, hL7, hD7, hF7⟩
          case measure => simp [intOf]; omega
    · obtain rfl : k = r := by omega
      have hbk := hL.out.blk
      have c7 := hbk.cell 7
      have hpz := hbk.lt
      simp only [List.getElem?_toArray, List.getElem?_cons_zero, List.getElem?_cons_succ] at c7
      clear hbk
      obtain ⟨q, hq⟩ : ∃ q, L.fin % 48 = q := ⟨_, rfl⟩
      have eq1 : (L.fin : Int) % 48 = (q : Int) := by omega
      obtain ⟨m, hm⟩ : ∃ m, min q s.out.length = m := ⟨_, rfl⟩
      have eq2 : min (q : Int) (s.out.length : Int) = (m : Int) := by omega
      have hmn : m ≤ s.out.length := by omega
      have hres : L.bytes S = s.out.drop m := by
        unfold LS.bytes
        rw [HrL.out, hs.out, hq, ← hm]
        rcases Nat.le_total q s.out.length with h | h
        · rw [Nat.min_eq_left h]
        · rw [Nat.min_eq_right h, List.drop_length, List.drop_eq_nil_of_le h]
      have hfin2 : L.streamed S = { L with life := s.ml } := by
        unfold LS.streamed
        rw [HrL.out, hs.out]
      have HRes := Lib.hid hres
      have HFin := Lib.hid hfin2
      have HW : Hid (WalIn wr p d (L.streamed S) S R RD) := by
        rw [hfin2]
        exact ⟨⟨lv, rv, hL.out⟩, hD.out, H.out.apart, H.out.fits⟩
      clear hq hm hres hfin2
      have hO2 := hO.out.2
      rcases hO2 with ⟨rfl, hx⟩ | ⟨g, cap, cur, rfl, hg, hh, hr⟩
      · have h0 : s.out = [] := List.eq_nil_of_length_eq_zero hx
        have hm0 : m = 0 := by omega
        have HH : Hid (L.bytes S = []) := by
          rw [Hid, HRes.out, h0]
          simp
        have eq3 : min (q : Int) 0 = 0 := by omega
        clear eq2 h0 hx hmn hO HRes hm0
        go_wp2
        go_ret2
        exact ⟨none, 0, by rw [HH.out]; rfl, by rw [HH.out]; intro h; simp at h, by rw [HH.out]; simp, fun a ha => (by cases ha), HW.out, hF.out⟩
      · obtain ⟨hr1, hr2, hr3, hr4⟩ := hr
        have hcells : Hid (∀ j x, (s.out.drop m)[j]? = some x → wr.cell? ⟨g, m + j, none⟩ = some (.int .u8 x.toNat)) := by
          intro j x hx
          rw [List.getElem?_drop] at hx
          have hbx : (bts s.out)[m + j]? = some (.int .u8 x.toNat) := by rw [bts_get, hx]; rfl
          rw [← hr4, List.getElem?_take] at hbx
          split at hbx
          · rw [Blk.cell hh (m + j), ← Array.getElem?_toList]; exact hbx
          · cases hbx
        have hlr : (s.out.drop m).length = s.out.length - m := List.length_drop
        have HLr := Lib.hid hlr
        have hgl : g < wr.heap.size := Blk.lt hh
        clear hlr hr3 hr4 hh
        by_cases hcap : cap = m
        · subst hcap
          have hz : s.out.length - cap = 0 := by omega
          have HZ : Hid ((L.bytes S).length = 0) := by rw [Hid, HRes.out, HLr.out, hz]
          go_wp2
          go_ret2
          refine ⟨some ⟨g, 0, none⟩, 0, ?_, ?_, by rw [HZ.out]; exact Nat.le_refl _, ?_, HW.out, hF.out⟩
          · rw [HZ.out]; rfl
          · intro h; rw [HZ.out] at h; cases h
          · rintro a ha
            injection ha with ha
            subst ha
            exact ⟨hg, hgl⟩
        · have hlt2 : m < cap := by omega
          clear hcap hr2
          go_wp2
          go_ret2
          refine ⟨some ⟨g, m, none⟩, cap - m, ?_, ?_, by rw [HRes.out, HLr.out]; omega, ?_, HW.out, hF.out⟩
          · rw [HRes.out, HLr.out]; rfl
          · rw [HRes.out]
            intro _
            exact ⟨g, m, rfl, hcells.out⟩
          · rintro a ha
            injection ha with ha
            subst ha
            exact ⟨hg, hgl⟩
end Go.Proofs.YtccmmnacejdeoaaGreatDoor

/-
  add: a record behind the others.
-/
namespace Go.Proofs.YtccmmnacejdeoaaGreatDoor
set_option linter.unusedSimpArgs false
set_option linter.unusedVariables false
open Go.RowKit
theorem info_record : (Tryz.prog.info? 113).map (fun i => (i.zero, i.size, i.bytes)) = some (some (.agg #[.slice none 0 0, .int .u64 0]), 2, 32) := by kernel_rfl
def LS.add (L : LS) (b : List UInt8) : LS := { L with l := L.l ++ [(b, L.fin)], fin := L.fin + (16 + b.length), room := L.room - (16 + b.length), next := L.next + 1 }
section
variable {R : Nat → Prop} {w : World} {p d : Nat} {L : LS}
/-- What add leaves. -/
theorem add_shape {lv : Value} {rv : List (Value × Nat)} {A : Option Addr} {c g7 o7 cap7 : Nat} {b : List UInt8} {w7 : World} (h : LogAt R w p d lv rv L) (hA : A ≠ none) (hv : RecIn R w (.slice A b.length c) b)
    (ho : OwnF w7 113 2 (.slice (some ⟨g7, o7, none⟩) (L.l.length + 1) cap7) (L.l.length + 1) (recCells rv ++ [.slice A b.length c, .int .u64 L.fin]))
    (hg : (w.drew.alloc (.cells #[.slice A b.length c, .int .u64 L.fin] 113)).grownBy w7 lv.ownBlock)
    (hat : (Value.slice (some ⟨g7, o7, none⟩) (L.l.length + 1) cap7).ownBlock = lv.ownBlock ∨ ∀ g, (Value.slice (some ⟨g7, o7, none⟩) (L.l.length + 1) cap7).ownBlock = some g → (w.drew.alloc (.cells #[.slice A b.length c, .int .u64 L.fin] 113)).heap.size ≤ g)
    (hfin : L.fin + (16 + b.length) < 18446744073709551616) (hnext : L.next + 1 < 18446744073709551616)
    (w8 : World) (hw8 : w8 = w7.setCell ⟨p, 6, none⟩ (.slice (some ⟨g7, o7, none⟩) (L.l.length + 1) cap7))
    (hb8 : Blk w8 p 82 ((#[.pointer (some ⟨d, 0, none⟩), .int .i64 L.start, .int .i64 L.n, .int .u64 L.first, .int .u64 L.next, .int .u64 L.flushed, lv, .int .u64 L.fin, .int .u64 L.kept, .int .u64 L.life, .int .u64 L.turn, .int .i64 L.room] : Array Value).setIfInBounds 6 (.slice (some ⟨g7, o7, none⟩) (L.l.length + 1) cap7)))
    (W : World) (hW : W = (((w8.setCell ⟨p, 7, none⟩ (.int .u64 ((L.fin : Int) + (16 + (b.length : Int))))).setCell ⟨p, 11, none⟩ (.int .i64 (L.room - (16 + (b.length : Int))))).setCell ⟨p, 4, none⟩ (.int .u64 ((L.next : Int) + 1)))) :
    LogOk (Ext R w W) W p d (L.add b) ∧ Fr R w W := by
  have f7 : Fr (fun k => k = p ∨ some k = lv.ownBlock) w w7 := (((Fr.refl _ w).drew.alloc _).grown hg (fun k hk => .inr (.inr hk.symm)))
  have f8 : Fr (fun k => k = p ∨ some k = lv.ownBlock) w w8 := by rw [hw8]; exact f7.setCell (p := ⟨p, 6, none⟩) (.inr (.inl rfl)) _
  have fW : Fr (fun k => k = p ∨ some k = lv.ownBlock) w W := by
    rw [hW]
    exact ((f8.setCell (p := ⟨p, 7, none⟩) (.inr (.inl rfl)) _).setCell (p := ⟨p, 11, none⟩) (.inr (.inl rfl)) _).setCell (p := ⟨p, 4, none⟩) (.inr (.inl rfl)) _
  have hbW := ((hb8.set_ 7 (.int .u64 ((L.fin : Int) + (16 + (b.length : Int))))).set_ 11 (.int .i64 (L.room - (16 + (b.length : Int))))).set_ 4 (.int .u64 ((L.next : Int) + 1))
  rw [← hW] at hbW
  have hb7 := ((h.blk.drew).alloc (.cells #[.slice A b.length c, .int .u64 L.fin] 113)).grown hg (Blk.ownF_ne h.blk h.own (by decide))
  have far : ∀ x, (x = p ∨ some x = lv.ownBlock) → x < w.heap.size → ∃ t cs, Blk w x t cs ∧ t ≠ 5 := by
    rintro x (rfl | hx) _
    · exact ⟨_, _, h.blk, by decide⟩
    · obtain ⟨cs, hcs⟩ := h.own.blk hx.symm
      exact ⟨_, _, hcs, by decide⟩
  have hszW : w7.heap.size = W.heap.size := by rw [hW, hw8]; simp [World.setCell]
  have hz7 : w.heap.size + 1 ≤ w7.heap.size := by have := hg.size; simpa using this
  have ext : ∀ x, R x → Ext R w W x := fun x hx => .inl hx
  refine ⟨⟨.slice (some ⟨g7, o7, none⟩) (L.l.length + 1) cap7, rv ++ [(.slice A b.length c, L.fin)], ?_⟩, fW.mono (fun x _ hx => by
    rcases hx with rfl | hx
    · exact h.rp
    · exact h.rl x hx.symm)⟩
  exact {
    blk := by
      have e1 : ((L.fin : Int) + (16 + (b.length : Int))) = ((L.fin + (16 + b.length) : Nat) : Int) := by omega
      have e2 : ((L.next : Int) + 1) = ((L.next + 1 : Nat) : Int) := by omega
      rw [e1, e2] at hbW
      exact hbW
    own := by
      rw [recCells_snoc]
      show OwnF W 113 2 _ (L.l ++ [(b, L.fin)]).length _
      rw [List.length_append]
      have o8 := OwnF.set_ (i := 6) (u := .slice (some ⟨g7, o7, none⟩) (L.l.length + 1) cap7) ho hb7 (by decide)
      rw [← hw8] at o8
      rw [hW]
      exact ((o8.set_ hb8 (by decide)).set_ (hb8.set_ 7 _) (by decide)).set_ ((hb8.set_ 7 _).set_ 11 _) (by decide)
    recs := by
      refine ⟨by simp [LS.add, h.recs.1], fun i x y hx hy => ?_⟩
      simp only [LS.add] at hy
      rw [List.getElem?_append] at hx hy
      rw [h.recs.1] at hx
      by_cases hi : i < L.l.length
      · rw [if_pos hi] at hx hy
        obtain ⟨e1, e2, e3⟩ := h.recs.2 i x y hx hy
        exact ⟨e1, e2, (e3.far fW far).more ext⟩
      · rw [if_neg hi] at hx hy
        have : i - L.l.length = 0 := by
          have := (List.getElem?_eq_some_iff.1 hx).1
          simp at this
          omega
        rw [this] at hx hy
        simp at hx hy
        subst hx hy
        exact ⟨rfl, h.b4, (hv.far fW far).more ext⟩
    nn := fun x hx => by
      rcases List.mem_append.1 hx with hx | hx
      · exact h.nn x hx
      · rw [List.mem_singleton] at hx
        subst hx
        intro e
        injection e with e
        exact hA e
    rp := .inl h.rp
    rl := fun x hx => by
      rcases hat with e | e
      · exact .inl (h.rl x (by rw [← e]; exact hx))
      · have h1 := e x hx
        have hl := ho.lt hx
        simp at h1
        exact .inr ⟨by omega, by omega⟩
    lt := fun x hx => by
      rcases hx with hx | hx
      · have := h.lt x hx; have := fW.size; omega
      · exact hx.2
    n0 := h.n0
    n1 := h.n1
    s1 := h.s1
    b1 := h.b1
    b2 := hnext
    b3 := h.b3
    b4 := hfin
    b5 := h.b5
    b6 := h.b6
    b7 := h.b7 }
end
section
variable {R : Nat → Prop} {w : World} {p d : Nat} {L : LS}
set_option maxHeartbeats 1600000 in
set_option maxRecDepth 100000 in
theorem add_any (A : Option Addr) (c : Nat) (b : List UInt8) (h : LogOk R w p d L) (hA : A ≠ none) (hv : RecIn R w (.slice A b.length c) b) (hll : L.l.length < 4000000000) (hfin : L.fin + (16 + b.length) < 18446744073709551616) (hnext : L.next + 1 < 18446744073709551616)
    (hbl : b.length ≤ 3000000000) (hr0 : -4611686018427387904 ≤ L.room) (hr1 : L.room ≤ 4611686018427387904) :
    Calls Tryz.prog 30 #[.pointer (some ⟨p, 0, none⟩), .slice A b.length c] w fun e w' => e = .returned (.tuple #[]) ∧ LogOk (Ext R w w') w' p d (L.add b) ∧ Fr R w w' := by
  obtain ⟨i0, hi0, hz0, hz1, hz2⟩ := info_parts info_record
  obtain ⟨lv, rv, h⟩ := h
  have hp := h.blk.lt
  have H := Lib.hid h
  have HV := Lib.hid hv
  clear h hv
  have hownW : Hid (OwnF (w.drew.alloc (.cells #[.slice A b.length c, .int .u64 L.fin] 113)) 113 2 lv L.l.length (recCells rv)) := (H.out.own.fr (Fr.refl Nob w).drew (fun _ _ h => h)).alloc _
  have c2 : Hid (∀ j u, [Value.slice A b.length c, .int .u64 L.fin][j]? = some u → (w.drew.alloc (.cells #[.slice A b.length c, .int .u64 L.fin] 113)).cell? ((⟨w.drew.heap.size, 0, none⟩ : Addr).add j) = some u) := by
    intro j u hu
    exact World.news_of_block (Blk.new w.drew 113 #[.slice A b.length c, .int .u64 L.fin]) j u (by simpa using hu)
  obtain ⟨v', w7, hrun7, hown7, hg7, hat7⟩ := run_appendF (P := Tryz.prog) (w.drew.alloc (.cells #[.slice A b.length c, .int .u64 L.fin] 113)) 80 80 113 i0 (.agg #[.slice none 0 0, .int .u64 0]) 2 32 Tryz.underlying80 hi0 hz0 hz1 hz2 rfl (by decide) lv L.l.length (recCells rv) hownW.out ⟨w.drew.heap.size, 0, none⟩ 1 1 [.slice A b.length c, .int .u64 L.fin] (by omega) rfl c2.out (by simp [Value.oneCell']) (by unfold maxLen; omega) (by omega)
  obtain ⟨g7, o7, cap7, hv7, hg7l, _, _⟩ := hown7.form (by omega)
  subst hv7
  have HR7 := Lib.hid hrun7
  have HO7 := Lib.hid hown7
  have HG7 := Lib.hid hg7
  have HA7 := Lib.hid hat7
  have HF7 : Hid (Fr (fun k => some k = lv.ownBlock) w.drew w7) := ((Fr.refl _ w.drew).alloc _).grown hg7 (fun k hk => .inr hk.symm)
  clear hrun7 hown7 hg7 hat7
  have HB7 : Hid (Blk w7 p 82 _) := ((H.out.blk.drew).alloc (.cells #[.slice A b.length c, .int .u64 L.fin] 113)).grown HG7.out (Blk.ownF_ne H.out.blk H.out.own (by decide))
  have HC : Hid (∀ W, Fr (fun k => some k = lv.ownBlock) w.drew W → W.cell? ⟨p, 6, none⟩ = some lv ∧ W.cell? ⟨p, 7, none⟩ = some (.int .u64 L.fin) ∧ p < W.heap.size) := by
    intro W hW
    have hb := H.out.blk.drew.fr hW (Blk.ownF_ne H.out.blk H.out.own (by decide))
    exact ⟨hb.cell 6, hb.cell 7, hb.lt⟩
  go_enter Tryz.func30, Tryz.ntmps30
  go_wp2
  have hS : Fr (fun k => some k = lv.ownBlock) w.drew w.drew := Fr.refl _ _
  refine Rg.begin (Fr (fun k => some k = lv.ownBlock) w.drew) [15] (by kernel_rfl) ?_
  refine Rg.op 0 (some 4) hS (v := ?v0) (hy := fun wz hwz => ?h0) (h := ?_)
  case h0 => (go_simp; try with_reducible rfl)
  refine Rg.op 1 (some 5) hS (v := ?v1) (hy := fun wz hwz => ?h1) (h := ?_)
  case h1 => (go_simp; try with_reducible rfl)
  refine Rg.op 2 (some 6) hS (v := ?v2) (hy := fun wz hwz => ?h2) (h := ?_)
  case h2 => (have hb := (HC.out _ hwz); have c6 := hb.1; have c7 := hb.2.1; have hpz := hb.2.2; clear hb; go_simp; try with_reducible rfl)
  refine Rg.op 3 (some 7) hS (v := ?v3) (hy := fun wz hwz => ?h3) (h := ?_)
  case h3 => (go_simp; try with_reducible rfl)
  refine Rg.op 4 (some 8) hS (v := ?v4) (hy := fun wz hwz => ?h4) (h := ?_)
  case h4 => (have hb := (HC.out _ hwz); have c6 := hb.1; have c7 := hb.2.1; have hpz := hb.2.2; clear hb; go_simp; try with_reducible rfl)
  refine Rg.op 5 (some 9) hS (v := ?v5) (hy := fun wz hwz => ?h5) (h := ?_)
  case h5 => (go_simp; try with_reducible rfl)
  refine Rg.op 6 (some 10) hS (v := ?v6) (hy := fun wz hwz => ?h6) (h := ?_)
  case h6 => (go_simp; try with_reducible rfl)
  refine Rg.op 7 (some 11) hS (v := ?v7) (hy := fun wz hwz => ?h7) (h := ?_)
  case h7 => (have hb := (HC.out _ hwz); have c6 := hb.1; have c7 := hb.2.1; have hpz := hb.2.2; clear hb; go_simp; try with_reducible rfl)
  refine Rg.op 8 (some 12) hS (v := ?v8) (hy := fun wz hwz => ?h8) (h := ?_)
  case h8 => (go_simp; try with_reducible rfl)
  refine Rg.op 9 (some 13) hS (v := ?v9) (hy := fun wz hwz => ?h9) (h := ?_)
  case h9 => (have hb := (HC.out _ hwz); have c6 := hb.1; have c7 := hb.2.1; have hpz := hb.2.2; clear hb; go_simp; try with_reducible rfl)
  refine Rg.op 10 (some 14) hS (v := ?v10) (hy := fun wz hwz => ?h10) (h := ?_)
  case h10 => (go_simp; try with_reducible rfl)
  have hSa : Fr (fun k => some k = lv.ownBlock) w.drew (w.drew.alloc (.cells #[.slice A b.length c, .int .u64 L.fin] 113)) := (Fr.refl _ _).alloc _
  refine Rg.run 11 (some 15) (v := (.slice (some ⟨w.drew.heap.size, 0, none⟩) 1 1)) (w' := ((w.drew.alloc (.cells #[.slice A b.length c, .int .u64 L.fin] 113)))) (hrun := ?h11) (hS := (fun _ => hSa)) (h := ?_)
  case h11 => (go_simp; try with_reducible rfl)
  refine Rg.run 12 (some 16) (v := (.slice (some ⟨g7, o7, none⟩) (L.l.length + 1) cap7)) (w' := (w7)) (hrun := ?h12) (hS := (fun _ => HF7.out)) (h := ?_)
  case h12 => exact run_opAppend (.tmp 8) (.tmp 15) 80 80 lv (.slice (some ⟨w.drew.heap.size, 0, none⟩) 1 1) rfl rfl rfl rfl HR7.out
  refine Rg.run 13 (some 17) (v := ?v13) (w' := (w7)) (hrun := ?h13) (hS := (fun _ => HF7.out)) (h := ?_)
  case h13 => (have hpb := HB7.out.lt; go_simp; try with_reducible rfl)
  refine Rg.op 14 (some 18) HF7.out (v := ?v14) (hy := fun wz hwz => ?h14) (h := ?_)
  case h14 => (go_simp; try with_reducible rfl)
  have hpb := HB7.out.lt
  have b6 := HB7.out.cell 6
  have q6 := HB7.out.frozen 6
  simp only [List.getElem?_toArray, List.getElem?_cons_zero, List.getElem?_cons_succ] at b6
  refine Rg.store 15 (w' := ?w15) (hrun := ?h15) (hS := (fun h => absurd (by decide) h)) (h := ?_)
  case h15 => (go_simp; try with_reducible rfl)
  refine Rg.done _ (h := ?_)
  have hb8 := HB7.out.set_ 6 (.slice (some ⟨g7, o7, none⟩) (L.l.length + 1) cap7)
  have hlog8 := Lib.hid hb8
  have d4 : (w7.setCell ⟨p, 6, none⟩ (.slice (some ⟨g7, o7, none⟩) (L.l.length + 1) cap7)).cell? ⟨p, 4, none⟩ = some (.int .u64 L.next) := hb8.cell 4
  have d7 : (w7.setCell ⟨p, 6, none⟩ (.slice (some ⟨g7, o7, none⟩) (L.l.length + 1) cap7)).cell? ⟨p, 7, none⟩ = some (.int .u64 L.fin) := hb8.cell 7
  have d11 : (w7.setCell ⟨p, 6, none⟩ (.slice (some ⟨g7, o7, none⟩) (L.l.length + 1) cap7)).cell? ⟨p, 11, none⟩ = some (.int .i64 L.room) := hb8.cell 11
  have f4 := hb8.frozen 4
  have f7 := hb8.frozen 7
  have f11 := hb8.frozen 11
  have hp8 := hb8.lt
  clear hb8
  generalize hW : (w7.setCell ⟨p, 6, none⟩ (.slice (some ⟨g7, o7, none⟩) (L.l.length + 1) cap7)) = w8 at *
  have HW := Lib.hid hW
  clear hW
  go_wp2
  go_end0
  exact ⟨rfl, add_shape H.out hA HV.out HO7.out HG7.out HA7.out hfin hnext w8 HW.out.symm hlog8.out _ rfl⟩
end
end Go.Proofs.YtccmmnacejdeoaaGreatDoor
