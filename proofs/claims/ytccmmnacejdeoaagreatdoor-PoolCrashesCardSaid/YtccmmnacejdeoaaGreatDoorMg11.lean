/-
  WalTrim, in one text.
-/
import Derived.Test.YtccmmnacejdeoaaGreatDoorMg05
import Derived.Test.YtccmmnacejdeoaaGreatDoorMg10
/-
  The sector in which the records end is cut: trim.
-/
namespace Go.Proofs.YtccmmnacejdeoaaGreatDoor
set_option linter.unusedSimpArgs false
set_option linter.unusedVariables false
open Go.RowKit

/-- What trim writes over the sector in which the records end, if anything. -/
def LS.cutB (L : LS) (S : DS) : Option (List UInt8) :=
  let b := S.now.getD (L.place (L.fin / 48)) []
  if pGood b = true ∧ pNo b = L.fin / 48 ∧ L.fin % 48 < pN b then some (if 0 < L.fin % 48 then sectB (L.fin / 48) L.life ((pOwn b).take (L.fin % 48)) else nought) else none
/-- The disk behind trim, and what trim says. -/
def LS.trimmed (L : LS) (S : DS) : DS := match L.cutB S with
  | none => S
  | some s => (S.wr (L.place (L.fin / 48)) s).flushed
def LS.trimCode (L : LS) (S : DS) : Int := match L.cutB S with
  | none => 0
  | some s => (S.wr (L.place (L.fin / 48)) s).fcode

theorem LS.place_lt {L : LS} {S : DS} (hn : 16 ≤ L.n) (hf : L.start + L.n ≤ S.now.length) (x : Nat) : L.place x < S.now.length := by
  unfold LS.place
  have := Nat.mod_lt x (show 0 < L.n - 2 by omega)
  omega
theorem DS.wr_length (S : DS) (i : Nat) (s : List UInt8) : (S.wr i s).now.length = S.now.length := by
  unfold DS.wr DS.burn DS.wr0
  split <;> simp
theorem DS.wr_waits (S : DS) (i : Nat) (s : List UInt8) : (S.wr i s).waits.length = S.waits.length + 1 := by
  unfold DS.wr DS.burn DS.wr0
  split <;> simp
theorem DS.flushed_length (S : DS) : S.flushed.now.length = S.now.length := by
  unfold DS.flushed DS.flush DS.burn DS.flush0
  split
  · rfl
  · split <;> rfl
theorem DS.wcode_ok {S : DS} {i : Nat} (hd : S.dead = false) (hi : i < S.now.length) : S.wcode (i : Int) 64 = 0 := by
  unfold DS.wcode
  rw [if_neg (by omega), if_neg (by rw [hd]; decide)]

/-- Writing a sector that is in memory, to a disk that lives. -/
theorem Write_in {RD : Nat → Prop} {w : World} {d : Nat} {S : DS} (i g c : Nat) (s : List UInt8) (h : DiskOk RD w d S) (hd : S.dead = false) (hi : i < S.now.length) (hs : s.length = 64) (hb : Row64 w g s) (hwl : S.waits.length < 4000000000) :
    Calls Tryz.prog 74 #[.pointer (some ⟨d, 0, none⟩), .int .i64 i, .slice (some ⟨g, 0, none⟩) 64 c] w fun e w' => e = .returned (.int .i64 0) ∧ DiskOk (Ext RD w w') w' d (S.wr i s) ∧ FrD RD w w' := by
  refine (Write_any (i : Int) g 64 c s h hs (fun j u hu => bytesIn_cells (bytesIn_of hb) j u hu) hb.lt hwl).mono ?_
  rintro e w' ⟨rfl, hd', hf⟩
  rw [DS.wcode_ok hd hi]
  refine ⟨rfl, ?_, hf⟩
  unfold DS.wrote at hd'
  rw [hs, if_pos (DS.wcode_ok hd hi), Int.toNat_natCast] at hd'
  exact hd'

/-- What is left at the end: the sector was written, the disk flushed. -/
theorem trim_end {w w11 w12 w13 : World} {p d no : Nat} {L : LS} {S : DS} {R RD : Nat → Prop} {s : List UInt8} (h : WalIn w p d L S R RD) (hno : L.fin / 48 = no) (h11 : Fr Nob w w11) (h12 : FrD RD w11 w12)
    (h13 : FrD (Ext RD w11 w12) w12 w13) (hd : DiskOk (Ext RD w11 w12) w13 d (S.wr (L.place no) s).flushed) (hc : L.cutB S = some s) :
    Ending.returned (.int .i64 (S.wr (L.place no) s).fcode) = .returned (.int .i64 (L.trimCode S)) ∧ LogOk R w13 p d L ∧ DiskOk (Ext RD w w13) w13 d (L.trimmed S) ∧ FrD RD w w13 := by
  have z11 := h11.size
  have z12 := h12.size
  have z13 := h13.size
  have k2 : FrD RD w w12 := FrD.step h11 (fun _ h => h.elim) h12 (fun _ _ h => h)
  have k3 : FrD RD w w13 := FrD.step k2 (fun _ h => h) h13 (fun i hi h => by rcases h with h | h; exact h; omega)
  unfold LS.trimCode LS.trimmed
  rw [hc, hno]
  refine ⟨rfl, h.l.fr k3.fr (fun b hb hd => h.apart b hb hd), hd.more ?_ ?_, k3⟩
  · rintro b (hb | hb)
    · exact .inl hb
    · exact .inr ⟨by omega, by omega⟩
  · rintro b (hb | hb)
    · have := h.d.lt hb; omega
    · exact hb.2

set_option maxHeartbeats 1600000 in
set_option maxRecDepth 100000 in
theorem trim_any {w : World} {p d : Nat} {L : LS} {S : DS} {R RD : Nat → Prop} (h : WalIn w p d L S R RD) (hdead : S.dead = false) (hwl : S.waits.length + 1 < 4000000000) :
    Calls Tryz.prog 47 #[.pointer (some ⟨p, 0, none⟩)] w fun e w' => e = .returned (.int .i64 (L.trimCode S)) ∧ LogOk R w' p d L ∧ DiskOk (Ext RD w w') w' d (L.trimmed S) ∧ FrD RD w w' := by
  obtain ⟨lv, rv, hL⟩ := h.l
  have hn0 := hL.n0
  have hn1 := hL.n1
  have hfin := hL.b4
  have hlife := hL.b6
  have hbk := hL.blk
  have hp := hbk.lt
  have HBk := Lib.hid hbk
  have hap : ¬ RD p := h.apart p hL.rp
  have HPl : Hid (∀ x, L.place x < S.now.length) := fun x => LS.place_lt hL.n0 h.fits x
  obtain ⟨b, hb⟩ : ∃ b, S.now.getD (L.place (L.fin / 48)) [] = b := ⟨_, rfl⟩
  have hsn : S.now[L.place (L.fin / 48)]? = some b := by
    rw [← hb, List.getD_eq_getElem?_getD, List.getElem?_eq_getElem (HPl.out _)]; rfl
  have hl64 := h.d.len64 hsn
  have HC : Hid (L.cutB S = if pGood b = true ∧ pNo b = L.fin / 48 ∧ L.fin % 48 < pN b then some (if 0 < L.fin % 48 then sectB (L.fin / 48) L.life ((pOwn b).take (L.fin % 48)) else nought) else none) := by
    unfold LS.cutB
    rw [hb]; exact rfl
  have hnone : Hid (L.cutB S = none → ∀ W, Fr Nob w W → (L.trimCode S = 0) ∧ LogOk R W p d L ∧ DiskOk (Ext RD w W) W d (L.trimmed S) ∧ FrD RD w W) := by
    intro hc W hW
    unfold LS.trimCode LS.trimmed
    rw [hc]
    exact ⟨rfl, h.l.new hW, h.d.ext hW.size (h.d.new hW), hW.mono (fun _ _ h => h.elim)⟩
  have HSn := Lib.hid hsn
  have HL64 := Lib.hid hl64
  have H := Lib.hid h
  have Hd := Lib.hid hdead
  clear h hL hbk hdead hb hsn hl64
  obtain ⟨no, hno⟩ : ∃ no, L.fin / 48 = no := ⟨_, rfl⟩
  obtain ⟨q, hq⟩ : ∃ q, L.fin % 48 = q := ⟨_, rfl⟩
  have e0 : (L.fin : Int) / 48 = (no : Int) := by omega
  have e1 : Int.tmod (L.fin : Int) 48 = (q : Int) := by rw [Int.tmod_eq_emod_of_nonneg (by omega)]; omega
  have e1' : (L.fin : Int) % 48 = (q : Int) := by omega
  have e2 : Int.tdiv (L.fin : Int) 48 = (no : Int) := by rw [Int.tdiv_eq_ediv_of_nonneg (by omega)]; omega
  have hno1 : no ≤ 384307168202282325 := by omega
  have hq1 : q < 48 := by omega
  rw [hno] at HSn
  rw [hno, hq] at HC
  have HNo := Lib.hid hno
  have HQ := Lib.hid hq
  clear hno hq
  go_enter Tryz.func47, Tryz.ntmps47
  go_wp2
  have hS1 : Fr Nob w w.drew := (Fr.refl _ w).drew
  refine Rg.begin (Fr Nob w) [] (by kernel_rfl) ?_
  refine Rg.op 0 (some 13) hS1 (v := ?v0a) (hy := fun wz hwz => ?h0a) (h := ?_)
  case h0a => (go_simp; try with_reducible rfl)
  refine Rg.op 1 (some 14) hS1 (v := ?v1a) (hy := fun wz hwz => ?h1a) (h := ?_)
  case h1a => (have hb := (HBk.out.fr hwz (fun h => h)); have c7 := hb.cell 7; have hp := hb.lt; simp only [List.getElem?_toArray, List.getElem?_cons_zero, List.getElem?_cons_succ] at c7; clear hb; go_simp; try with_reducible rfl)
  refine Rg.op 2 (some 15) hS1 (v := ?v2a) (hy := fun wz hwz => ?h2a) (h := ?_)
  case h2a => (go_simp; try with_reducible rfl)
  refine Rg.op 3 (some 16) hS1 (v := ?v3a) (hy := fun wz hwz => ?h3a) (h := ?_)
  case h3a => (have hb := (HBk.out.fr hwz (fun h => h)); have c7 := hb.cell 7; have hp := hb.lt; simp only [List.getElem?_toArray, List.getElem?_cons_zero, List.getElem?_cons_succ] at c7; clear hb; go_simp; try with_reducible rfl)
  refine Rg.op 4 (some 17) hS1 (v := ?v4a) (hy := fun wz hwz => ?h4a) (h := ?_)
  case h4a => (have u1 : IntKind.u64.wrap (no : Int) = (no : Int) := (by rw [IntKind.wrap_u64]; omega); go_simp; try with_reducible rfl)
  refine Rg.op 5 (some 18) hS1 (v := ?v5a) (hy := fun wz hwz => ?h5a) (h := ?_)
  case h5a => (go_simp; try with_reducible rfl)
  refine Rg.op 6 (some 19) hS1 (v := ?v6a) (hy := fun wz hwz => ?h6a) (h := ?_)
  case h6a => (have hb := (HBk.out.fr hwz (fun h => h)); have c7 := hb.cell 7; have hp := hb.lt; simp only [List.getElem?_toArray, List.getElem?_cons_zero, List.getElem?_cons_succ] at c7; clear hb; go_simp; try with_reducible rfl)
  refine Rg.op 7 (some 20) hS1 (v := ?v7a) (hy := fun wz hwz => ?h7a) (h := ?_)
  case h7a => (go_simp; try with_reducible rfl)
  refine Rg.op 8 (some 21) hS1 (v := ?v8a) (hy := fun wz hwz => ?h8a) (h := ?_)
  case h8a => (have hb := (HBk.out.fr hwz (fun h => h)); have c7 := hb.cell 7; have hp := hb.lt; simp only [List.getElem?_toArray, List.getElem?_cons_zero, List.getElem?_cons_succ] at c7; clear hb; go_simp; try with_reducible rfl)
  refine Rg.op 9 (some 22) hS1 (v := ?v9a) (hy := fun wz hwz => ?h9a) (h := ?_)
  case h9a => (have u2 : IntKind.u64.wrap (q : Int) = (q : Int) := (by rw [IntKind.wrap_u64]; omega); go_simp; try with_reducible rfl)
  refine Rg.op 10 (some 3) hS1 (v := ?v10a) (hy := fun wz hwz => ?h10a) (h := ?_)
  case h10a => (go_simp; try with_reducible rfl)
  refine Rg.op 11 (some 4) hS1 (v := ?v11a) (hy := fun wz hwz => ?h11a) (h := ?_)
  case h11a => (go_simp; try with_reducible rfl)
  refine Rg.done _ (h := ?_)
  go_wp2
  clear e0 e1 e2 e1'
  have hS : Fr Nob w w.drew.drew := hS1.drew
  refine Rg.begin (Fr Nob w) [] (by kernel_rfl) ?_
  refine Rg.op 0 (some 24) hS (v := ?v0b) (hy := fun wz hwz => ?h0b) (h := ?_)
  case h0b => (go_simp; try with_reducible rfl)
  refine Rg.op 1 (some 25) hS (v := ?v1b) (hy := fun wz hwz => ?h1b) (h := ?_)
  case h1b => (have hb := (HBk.out.fr hwz (fun h => h)); have c0 := hb.cell 0; have hp := hb.lt; simp only [List.getElem?_toArray, List.getElem?_cons_zero, List.getElem?_cons_succ] at c0; clear hb; go_simp; try with_reducible rfl)
  refine Rg.op 2 (some 26) hS (v := ?v2b) (hy := fun wz hwz => ?h2b) (h := ?_)
  case h2b => (go_simp; try with_reducible rfl)
  refine Rg.op 3 (some 27) hS (v := ?v3b) (hy := fun wz hwz => ?h3b) (h := ?_)
  case h3b => (have hb := (HBk.out.fr hwz (fun h => h)); have c0 := hb.cell 0; have hp := hb.lt; simp only [List.getElem?_toArray, List.getElem?_cons_zero, List.getElem?_cons_succ] at c0; clear hb; go_simp; try with_reducible rfl)
  refine Rg.op 4 (some 28) hS (v := ?v4b) (hy := fun wz hwz => ?h4b) (h := ?_)
  case h4b => (go_simp; try with_reducible rfl)
  refine Rg.op 5 (some 29) hS (v := ?v5b) (hy := fun wz hwz => ?h5b) (h := ?_)
  case h5b => (go_simp; try with_reducible rfl)
  refine Rg.call 6 (some 30) (hrun := ?h6b) (hcall := place_any no (H.out.l.new hS) (by omega)) (h := ?_)
  case h6b => (go_simp)
  rintro e w5 ⟨rfl, hf5⟩
  have hS5 : Fr Nob w w5 := hS.trans hf5
  clear hf5
  refine ⟨_, ?a6b, rfl, ?b6b, (fun _ => hS5), ?_⟩
  case b6b => (simp only [Act.put, List.setIfInBounds_toArray, List.set_cons_zero, List.set_cons_succ]; rfl)
  refine Rg.call 7 (some 31) (hrun := ?h7b) (hcall := Read_good (L.place no) b (H.out.d.new hS5) Hd.out HSn.out) (h := ?_)
  case h7b => (go_simp)
  rintro e w6 ⟨rfl, hr6, hf6⟩
  obtain ⟨g6, hg6⟩ : ∃ g6, w5.heap.size = g6 := ⟨_, rfl⟩
  rw [hg6] at hr6 ⊢
  clear hg6
  have hS6 : Fr Nob w w6 := hS5.trans hf6
  have HR6 := Lib.hid hr6
  clear hr6 hf6
  refine ⟨_, ?a7b, rfl, ?b7b, (fun _ => hS6), ?_⟩
  case b7b => (simp only [Act.put, List.setIfInBounds_toArray, List.set_cons_zero, List.set_cons_succ]; rfl)
  refine Rg.op 8 (some 23) hS6 (v := ?v8b) (hy := fun wz hwz => ?h8b) (h := ?_)
  case h8b => (go_simp; try with_reducible rfl)
  refine Rg.op 9 (some 32) hS6 (v := ?v9b) (hy := fun wz hwz => ?h9b) (h := ?_)
  case h9b => (go_simp; try with_reducible rfl)
  refine Rg.op 10 (some 33) hS6 (v := ?v10b) (hy := fun wz hwz => ?h10b) (h := ?_)
  case h10b => (go_simp; try with_reducible rfl)
  refine Rg.op 11 (some 5) hS6 (v := ?v11b) (hy := fun wz hwz => ?h11b) (h := ?_)
  case h11b => (go_simp; try with_reducible rfl)
  refine Rg.op 12 (some 6) hS6 (v := ?v12b) (hy := fun wz hwz => ?h12b) (h := ?_)
  case h12b => (go_simp; try with_reducible rfl)
  refine Rg.done _ (h := ?_)
  by_cases hg : pGood b = true
  · have Hpc := Lib.hid (parse_good g6 b w6 HR6.out HL64.out hg)
    have h48 := (pGood_le hg).1
    have hpl : pLife b < 18446744073709551616 := getN_lt _
    have hpn : pNo b < 18446744073709551616 := getN_lt _
    by_cases q1 : pNo b = no
    · by_cases q2 : q < pN b
      · have hcs : L.cutB S = some (if 0 < q then sectB no L.life ((pOwn b).take q) else nought) := by rw [HC.out, if_pos ⟨hg, q1, q2⟩]
        have HCs := Lib.hid hcs
        have t1 : ((pNo b : Int) != (no : Int)) = false := by rw [bne_eq_false_iff_eq]; omega
        have t2 : decide (pN b ≤ q) = false := by simpa using q2
        have u3 : IntKind.u64.wrap (pN b : Int) = (pN b : Int) := by rw [IntKind.wrap_u64]; omega
        have hmk := make64
        clear hnone hg q1 hcs
        go_wp2_with fail
        refine Hpc.out.mono ?_
        rintro e w7 ⟨rfl, hf7⟩
        have hS7 : Fr Nob w w7 := hS6.trans hf7
        have hS8 : Fr Nob w (w7.alloc (.cells zeros64 5)) := hS7.alloc _
        have HR8 : Hid (Row64 (w7.alloc (.cells zeros64 5)) g6 b) := (HR6.out.fr hf7 (fun h => h)).alloc _
        have HZ8 : Hid (Row64 (w7.alloc (.cells zeros64 5)) w7.heap.size nought) := by
          unfold Hid Row64
          rw [← zeros64_eq]
          exact Blk.new _ _ _
        clear HR6 hS6 hf7 hS hS1 hS5
        by_cases q3 : 0 < q
        · have t3 : decide ((0 : Int) < (q : Int)) = true := by simp; omega
          rw [if_pos q3] at HCs
          clear HZ8
          go_wp2
          obtain ⟨wY, hY⟩ : ∃ wY, (w7.alloc (.cells zeros64 5)) = wY := ⟨_, rfl⟩
          rw [hY] at HR8 hS8 ⊢
          clear hY
          have hSY : Fr Nob wY wY.drew := (Fr.refl _ wY).drew
          have HBY := Lib.hid (HBk.out.fr hS8 (fun h => h))
          have hol : ((pOwn b).take q).length = q := by rw [List.length_take, pOwn_length h48 HL64.out]; omega
          have hbi : BytesIn wY.drew (some ⟨g6, 16, none⟩) ((pOwn b).take q) := by
            have := bytesIn_part (w := wY.drew) HR8.out 16 q
            rwa [show (b.drop 16).take q = (pOwn b).take q from by unfold pOwn; rw [List.take_take, Nat.min_eq_left (by omega)]] at this
          have hsc := sector_any no L.life (some ⟨g6, 16, none⟩) 48 ((pOwn b).take q) wY.drew hbi (by rw [hol]; omega) (by omega) hlife
          rw [hol] at hsc
          have HSc := Lib.hid hsc
          have HPt : Hid ((sectB no L.life ((pOwn b).take q)).length = 64) := sectB_length _ _ _ (by rw [hol]; omega)
          clear hsc hbi hol
          refine Rg.begin (Fr Nob wY) [] (by kernel_rfl) ?_
          refine Rg.op 0 (some 61) hSY (v := ?v0s) (hy := fun wz hwz => ?h0s) (h := ?_)
          case h0s => (go_simp; try with_reducible rfl)
          refine Rg.op 1 (some 62) hSY (v := ?v1s) (hy := fun wz hwz => ?h1s) (h := ?_)
          case h1s => (go_simp; try with_reducible rfl)
          refine Rg.op 2 (some 63) hSY (v := ?v2s) (hy := fun wz hwz => ?h2s) (h := ?_)
          case h2s => (have hb := (HBY.out.fr hwz (fun h => h)); have c9 := hb.cell 9; have hp := hb.lt; simp only [List.getElem?_toArray, List.getElem?_cons_zero, List.getElem?_cons_succ] at c9; clear hb; go_simp; try with_reducible rfl)
          refine Rg.op 3 (some 64) hSY (v := ?v3s) (hy := fun wz hwz => ?h3s) (h := ?_)
          case h3s => (go_simp; try with_reducible rfl)
          refine Rg.op 4 (some 65) hSY (v := ?v4s) (hy := fun wz hwz => ?h4s) (h := ?_)
          case h4s => (have hb := (HBY.out.fr hwz (fun h => h)); have c9 := hb.cell 9; have hp := hb.lt; simp only [List.getElem?_toArray, List.getElem?_cons_zero, List.getElem?_cons_succ] at c9; clear hb; go_simp; try with_reducible rfl)
          refine Rg.op 5 (some 66) hSY (v := ?v5s) (hy := fun wz hwz => ?h5s) (h := ?_)
          case h5s => (go_simp; try with_reducible rfl)
          refine Rg.op 6 (some 67) hSY (v := ?v6s) (hy := fun wz hwz => ?h6s) (h := ?_)
          case h6s => (go_simp; try with_reducible rfl)
          refine Rg.op 7 (some 68) hSY (v := (.slice (some ⟨g6, 16, none⟩) q 48)) (hy := fun wz hwz => ?h7s) (h := ?_)
          case h7s => (have u5 : (q : Int) ≤ 48 := (by omega); have u6 : (0 : Int) ≤ (q : Int) := (by omega); go_simp; try with_reducible rfl)
          refine Rg.call 8 (some 69) (hrun := ?h8s) (hcall := HSc.out) (h := ?_)
          case h8s => (go_simp)
          rintro e w10 ⟨rfl, hr10, hf10⟩
          obtain ⟨g10, hg10⟩ : ∃ g10, wY.drew.heap.size = g10 := ⟨_, rfl⟩
          rw [hg10] at hr10 ⊢
          clear hg10
          have hS10 : Fr Nob wY w10 := hSY.trans hf10
          have hS10w : Fr Nob w w10 := hS8.trans hS10
          have HR10 : Hid (Row64 w10 g10 (sectB no L.life ((pOwn b).take q))) := hr10
          clear hr10 hf10
          refine ⟨_, ?a8s, rfl, ?b8s, (fun _ => hS10), ?_⟩
          case b8s => (simp only [Act.put, List.setIfInBounds_toArray, List.set_cons_zero, List.set_cons_succ]; rfl)
          refine Rg.op 9 (some 11) hS10 (v := ?v9s) (hy := fun wz hwz => ?h9s) (h := ?_)
          case h9s => (go_simp; try with_reducible rfl)
          refine Rg.done _ (h := ?_)
          go_wp2
          obtain ⟨g9, hg9⟩ : ∃ g9, g10 = g9 := ⟨_, rfl⟩
          rw [hg9] at HR10 ⊢
          clear hg9
          obtain ⟨wX, hX⟩ : ∃ wX, w10 = wX := ⟨_, rfl⟩
          rw [hX] at HR10 hS10w ⊢
          clear hX
          have hSX : Fr RD wX wX.drew := (Fr.refl _ wX).drew
          have HLX := Lib.hid (H.out.l.new hS10w)
          have HDX := Lib.hid (H.out.d.new hS10w)
          have HBX := Lib.hid (HBk.out.fr hS10w (fun h => h))
          refine Rg.begin (Fr RD wX) [] (by kernel_rfl) ?_
          refine Rg.op 0 (some 70) hSX (v := ?v0y) (hy := fun wz hwz => ?h0y) (h := ?_)
          case h0y => (go_simp; try with_reducible rfl)
          refine Rg.op 1 (some 71) hSX (v := ?v1y) (hy := fun wz hwz => ?h1y) (h := ?_)
          case h1y => (have hb := (HBX.out.fr hwz hap); have c0 := hb.cell 0; have hp := hb.lt; simp only [List.getElem?_toArray, List.getElem?_cons_zero, List.getElem?_cons_succ] at c0; clear hb; go_simp; try with_reducible rfl)
          refine Rg.op 2 (some 72) hSX (v := ?v2y) (hy := fun wz hwz => ?h2y) (h := ?_)
          case h2y => (go_simp; try with_reducible rfl)
          refine Rg.op 3 (some 73) hSX (v := ?v3y) (hy := fun wz hwz => ?h3y) (h := ?_)
          case h3y => (have hb := (HBX.out.fr hwz hap); have c0 := hb.cell 0; have hp := hb.lt; simp only [List.getElem?_toArray, List.getElem?_cons_zero, List.getElem?_cons_succ] at c0; clear hb; go_simp; try with_reducible rfl)
          refine Rg.op 4 (some 74) hSX (v := ?v4y) (hy := fun wz hwz => ?h4y) (h := ?_)
          case h4y => (go_simp; try with_reducible rfl)
          refine Rg.op 5 (some 75) hSX (v := ?v5y) (hy := fun wz hwz => ?h5y) (h := ?_)
          case h5y => (go_simp; try with_reducible rfl)
          refine Rg.op 7 (some 77) hSX (v := ?v7y) (hy := fun wz hwz => ?h7y) (h := ?_)
          case h7y => (go_simp; try with_reducible rfl)
          refine Rg.call 6 (some 76) (hrun := ?h6y) (hcall := place_any no (HLX.out.new (Fr.refl Nob wX).drew) (by omega)) (h := ?_)
          case h6y => (go_simp)
          rintro e w11 ⟨rfl, hf11⟩
          have hf11' : Fr Nob wX w11 := (Fr.refl Nob wX).drew.trans hf11
          have hS11 : Fr RD wX w11 := hf11'.mono (fun _ _ h => h.elim)
          have HR11 : Hid (Row64 w11 g9 _) := (HR10.out.fr hf11' (fun h => h))
          have hS11w : Fr Nob w w11 := hS10w.trans hf11'
          clear hf11
          refine ⟨_, ?a6y, rfl, ?b6y, (fun _ => hS11), ?_⟩
          case b6y => (simp only [Act.put, List.setIfInBounds_toArray, List.set_cons_zero, List.set_cons_succ]; rfl)
          refine Rg.call 8 (some 78) (hrun := ?h8y) (hcall := Write_in (L.place no) g9 64 (sectB no L.life ((pOwn b).take q)) (HDX.out.new hf11') Hd.out (HPl.out _) HPt.out HR11.out (by omega)) (h := ?_)
          case h8y => (go_simp)
          rintro e w12 ⟨rfl, hd12, hf12⟩
          have hS12 : Fr RD wX w12 := hS11.trans hf12.fr
          have HD12 := Lib.hid hd12
          have HF12 := Lib.hid hf12
          clear hd12 hf12
          refine ⟨_, ?a8y, rfl, ?b8y, (fun _ => hS12), ?_⟩
          case b8y => (simp only [Act.put, List.setIfInBounds_toArray, List.set_cons_zero, List.set_cons_succ]; rfl)
          refine Rg.op 9 (some 12) hS12 (v := ?v9y) (hy := fun wz hwz => ?h9y) (h := ?_)
          case h9y => (go_simp; try with_reducible rfl)
          refine Rg.done _ (h := ?_)
          have hb12 := HBX.out.fr hS12 hap
          have d0 := hb12.cell 0
          have hp12 := hb12.lt
          simp only [List.getElem?_toArray, List.getElem?_cons_zero, List.getElem?_cons_succ] at d0
          clear hb12
          have HFl := Lib.hid (Flush_any HD12.out (by rw [DS.wr_waits]; omega))
          go_wp2_with fail
          refine HFl.out.mono ?_
          rintro e w13 ⟨rfl, hd13, hf13⟩
          go_wp2
          go_ret
          exact trim_end H.out HNo.out hS11w HF12.out hf13 hd13 HCs.out
        · obtain rfl : q = 0 := by omega
          rw [if_neg q3] at HCs
          clear q3
          go_wp2
          have HPt : Hid (nought.length = 64) := nought_length
          obtain ⟨g9, hg9⟩ : ∃ g9, w7.heap.size = g9 := ⟨_, rfl⟩
          rw [hg9] at HZ8 ⊢
          clear hg9
          obtain ⟨wX, hX⟩ : ∃ wX, (w7.alloc (.cells zeros64 5)) = wX := ⟨_, rfl⟩
          rw [hX] at HZ8 hS8 ⊢
          clear hX
          have hSX : Fr RD wX wX.drew := (Fr.refl _ wX).drew
          have HLX := Lib.hid (H.out.l.new hS8)
          have HDX := Lib.hid (H.out.d.new hS8)
          have HBX := Lib.hid (HBk.out.fr hS8 (fun h => h))
          refine Rg.begin (Fr RD wX) [] (by kernel_rfl) ?_
          refine Rg.op 0 (some 70) hSX (v := ?v0z) (hy := fun wz hwz => ?h0z) (h := ?_)
          case h0z => (go_simp; try with_reducible rfl)
          refine Rg.op 1 (some 71) hSX (v := ?v1z) (hy := fun wz hwz => ?h1z) (h := ?_)
          case h1z => (have hb := (HBX.out.fr hwz hap); have c0 := hb.cell 0; have hp := hb.lt; simp only [List.getElem?_toArray, List.getElem?_cons_zero, List.getElem?_cons_succ] at c0; clear hb; go_simp; try with_reducible rfl)
          refine Rg.op 2 (some 72) hSX (v := ?v2z) (hy := fun wz hwz => ?h2z) (h := ?_)
          case h2z => (go_simp; try with_reducible rfl)
          refine Rg.op 3 (some 73) hSX (v := ?v3z) (hy := fun wz hwz => ?h3z) (h := ?_)
          case h3z => (have hb := (HBX.out.fr hwz hap); have c0 := hb.cell 0; have hp := hb.lt; simp only [List.getElem?_toArray, List.getElem?_cons_zero, List.getElem?_cons_succ] at c0; clear hb; go_simp; try with_reducible rfl)
          refine Rg.op 4 (some 74) hSX (v := ?v4z) (hy := fun wz hwz => ?h4z) (h := ?_)
          case h4z => (go_simp; try with_reducible rfl)
          refine Rg.op 5 (some 75) hSX (v := ?v5z) (hy := fun wz hwz => ?h5z) (h := ?_)
          case h5z => (go_simp; try with_reducible rfl)
          refine Rg.op 7 (some 77) hSX (v := ?v7z) (hy := fun wz hwz => ?h7z) (h := ?_)
          case h7z => (go_simp; try with_reducible rfl)
          refine Rg.call 6 (some 76) (hrun := ?h6z) (hcall := place_any no (HLX.out.new (Fr.refl Nob wX).drew) (by omega)) (h := ?_)
          case h6z => (go_simp)
          rintro e w11 ⟨rfl, hf11⟩
          have hf11' : Fr Nob wX w11 := (Fr.refl Nob wX).drew.trans hf11
          have hS11 : Fr RD wX w11 := hf11'.mono (fun _ _ h => h.elim)
          have HR11 : Hid (Row64 w11 g9 _) := (HZ8.out.fr hf11' (fun h => h))
          have hS11w : Fr Nob w w11 := hS8.trans hf11'
          clear hf11
          refine ⟨_, ?a6z, rfl, ?b6z, (fun _ => hS11), ?_⟩
          case b6z => (simp only [Act.put, List.setIfInBounds_toArray, List.set_cons_zero, List.set_cons_succ]; rfl)
          refine Rg.call 8 (some 78) (hrun := ?h8z) (hcall := Write_in (L.place no) g9 64 nought (HDX.out.new hf11') Hd.out (HPl.out _) HPt.out HR11.out (by omega)) (h := ?_)
          case h8z => (go_simp)
          rintro e w12 ⟨rfl, hd12, hf12⟩
          have hS12 : Fr RD wX w12 := hS11.trans hf12.fr
          have HD12 := Lib.hid hd12
          have HF12 := Lib.hid hf12
          clear hd12 hf12
          refine ⟨_, ?a8z, rfl, ?b8z, (fun _ => hS12), ?_⟩
          case b8z => (simp only [Act.put, List.setIfInBounds_toArray, List.set_cons_zero, List.set_cons_succ]; rfl)
          refine Rg.op 9 (some 12) hS12 (v := ?v9z) (hy := fun wz hwz => ?h9z) (h := ?_)
          case h9z => (go_simp; try with_reducible rfl)
          refine Rg.done _ (h := ?_)
          have hb12 := HBX.out.fr hS12 hap
          have d0 := hb12.cell 0
          have hp12 := hb12.lt
          simp only [List.getElem?_toArray, List.getElem?_cons_zero, List.getElem?_cons_succ] at d0
          clear hb12
          have HFl := Lib.hid (Flush_any HD12.out (by rw [DS.wr_waits]; omega))
          go_wp2_with fail
          refine HFl.out.mono ?_
          rintro e w13 ⟨rfl, hd13, hf13⟩
          go_wp2
          go_ret
          exact trim_end H.out HNo.out hS11w HF12.out hf13 hd13 HCs.out

      · have t1 : ((pNo b : Int) != (no : Int)) = false := by rw [bne_eq_false_iff_eq]; omega
        have t2 : decide (pN b ≤ q) = true := by simp; omega
        have u3 : IntKind.u64.wrap (pN b : Int) = (pN b : Int) := by rw [IntKind.wrap_u64]; omega
        have HN := Lib.hid (hnone.out (by rw [HC.out, if_neg (fun h => q2 h.2.2)]))
        clear hnone hg q1 q2
        go_wp2_with fail
        refine Hpc.out.mono ?_
        rintro e w7 ⟨rfl, hf7⟩
        go_wp2
        go_ret
        have := HN.out w7 (hS6.trans hf7)
        exact ⟨by rw [this.1]; rfl, this.2⟩
    · have t1 : ((pNo b : Int) != (no : Int)) = true := by rw [bne_iff_ne]; omega
      have HN := Lib.hid (hnone.out (by rw [HC.out, if_neg (fun h => q1 h.2.1)]))
      clear hnone hg q1
      go_wp2_with fail
      refine Hpc.out.mono ?_
      rintro e w7 ⟨rfl, hf7⟩
      go_wp2
      go_ret
      have := HN.out w7 (hS6.trans hf7)
      exact ⟨by rw [this.1]; rfl, this.2⟩
  · have hg' : pGood b = false := by simpa using hg
    have HN := Lib.hid (hnone.out (by rw [HC.out, if_neg (fun h => hg h.1)]))
    have Hpc := Lib.hid (parse_bad g6 b w6 HR6.out HL64.out hg')
    clear hnone hg hg'
    go_wp2_with fail
    refine Hpc.out.mono ?_
    rintro e w7 ⟨x, y, A, n, c, rfl, hf7⟩
    go_wp2
    go_ret
    have := HN.out w7 (hS6.trans hf7)
    exact ⟨by rw [this.1]; rfl, this.2⟩
end Go.Proofs.YtccmmnacejdeoaaGreatDoor
