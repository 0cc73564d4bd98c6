/-
  Runs of writes and flushes on a disk that may die; a file's write of some sectors, whatever the fuse.
-/
import Derived.Test.YtilclfeaolhoeaaDoorPgFile
namespace Go.Proofs.YtilclfeaolhoeaaDoor
set_option linter.unusedSimpArgs false
set_option linter.unusedVariables false
open Go.RowKit

/-- A write of a sector, or a flush. -/
inductive WOp where
  | wr (i : Nat) (s : List UInt8)
  | fl
def WOp.next (S : DS) : WOp → DS
  | .wr i s => S.wr i s
  | .fl => S.flush
/-- Writes and flushes one behind the other, up to the disk's death: what is left of the disk, and the answer. -/
def runs : DS → List WOp → DS × Int
  | S, [] => (S, 0)
  | S, o :: l => if S.dead = true then (S, 50) else runs (o.next S) l
def secOps (i : Nat) (b : List UInt8) : Nat → List WOp
  | 0 => []
  | k + 1 => secOps i b k ++ [.wr (i + k) ((b.drop (64 * k)).take 64)]
theorem runs_append (S : DS) (a b : List WOp) : runs S (a ++ b) = if (runs S a).2 = 0 then runs (runs S a).1 b else runs S a := by
  induction a generalizing S with
  | nil => rfl
  | cons o l ih =>
    show (if S.dead = true then (S, (50 : Int)) else runs (o.next S) (l ++ b)) = _
    by_cases h : S.dead = true
    · rw [if_pos h]
      have : runs S (o :: l) = (S, 50) := by unfold runs; rw [if_pos h]
      rw [this]; rfl
    · rw [if_neg h, ih]
      have : runs S (o :: l) = runs (o.next S) l := by conv => lhs; unfold runs; rw [if_neg h]
      rw [this]
theorem runs_code (S : DS) (l : List WOp) : (runs S l).2 = 0 ∨ (runs S l).2 = 50 := by
  induction l generalizing S with
  | nil => exact .inl rfl
  | cons o l ih =>
    unfold runs
    split
    · exact .inr rfl
    · exact ih _
theorem next_length (S : DS) (o : WOp) : (o.next S).now.length = S.now.length := by
  cases o with
  | wr i s =>
    show (S.wr i s).now.length = _
    unfold DS.wr DS.burn DS.wr0
    split <;> simp
  | fl =>
    show S.flush.now.length = _
    unfold DS.flush DS.burn DS.flush0
    split <;> rfl
theorem next_waits (S : DS) (o : WOp) : (o.next S).waits.length ≤ S.waits.length + 1 := by
  cases o with
  | wr i s =>
    show (S.wr i s).waits.length ≤ _
    unfold DS.wr DS.burn DS.wr0
    split <;> simp
  | fl =>
    show S.flush.waits.length ≤ _
    unfold DS.flush DS.burn DS.flush0
    split <;> simp
theorem runs_length (S : DS) (l : List WOp) : (runs S l).1.now.length = S.now.length := by
  induction l generalizing S with
  | nil => rfl
  | cons o l ih =>
    unfold runs
    split
    · rfl
    · rw [ih, next_length]
theorem runs_waits (S : DS) (l : List WOp) : (runs S l).1.waits.length ≤ S.waits.length + l.length := by
  induction l generalizing S with
  | nil => exact Nat.le_refl _
  | cons o l ih =>
    unfold runs
    split
    · simp
    · have := ih (o.next S); have := next_waits S o; rw [List.length_cons]; omega
theorem secOps_length (i : Nat) (b : List UInt8) : ∀ k, (secOps i b k).length = k
  | 0 => rfl
  | k + 1 => by rw [secOps, List.length_append, secOps_length i b k]; rfl
theorem secOps_split (i : Nat) (b : List UInt8) (j : Nat) : ∀ n, j ≤ n → ∃ r, secOps i b n = secOps i b j ++ r
  | 0, h => by obtain rfl : j = 0 := by omega
               exact ⟨[], (List.append_nil _).symm⟩
  | n + 1, h => by
    by_cases e : j = n + 1
    · subst e; exact ⟨[], (List.append_nil _).symm⟩
    · obtain ⟨r, hr⟩ := secOps_split i b j n (by omega)
      exact ⟨r ++ [.wr (i + n) ((b.drop (64 * n)).take 64)], by rw [secOps, hr, List.append_assoc]⟩
/-- A run that is over stays over. -/
theorem runs_stuck {S : DS} {a b : List WOp} (h : ∃ r, b = a ++ r) (hc : (runs S a).2 ≠ 0) : runs S b = runs S a := by
  obtain ⟨r, rfl⟩ := h
  rw [runs_append, if_neg hc]
theorem runs_one (S : DS) (o : WOp) : runs S [o] = if S.dead = true then (S, 50) else (o.next S, 0) := rfl
theorem runs_snoc {S : DS} {a : List WOp} (h : (runs S a).2 = 0) (o : WOp) : runs S (a ++ [o]) = if (runs S a).1.dead = true then ((runs S a).1, 50) else (o.next (runs S a).1, 0) := by
  rw [runs_append, if_pos h, runs_one]

set_option maxHeartbeats 1600000 in
set_option maxRecDepth 100000 in
theorem pgWrite_run {R : Nat → Prop} {w : World} {p d at0 pages turn : Nat} {S : DS} (i n : Nat) (kb ko c : Nat) (b : List UInt8) (h : FileAt w p d at0 pages turn) (hp : ¬ R p) (hd : DiskOk R w d S) (hb : Bsl w (some ⟨kb, ko, none⟩) c b) (hkb : ¬ R kb) (hbl : b.length = 64 * n) (hn : n ≤ 8) (hi : i + n ≤ S.now.length) (hi2 : i ≤ 70000) (hwl : S.waits.length ≤ 1000000) :
    Calls Tryd.prog 18 #[.pointer (some ⟨p, 0, none⟩), .int .i64 i, .slice (some ⟨kb, ko, none⟩) b.length c] w fun e w' => e = .returned (.int .i64 (runs S (secOps i b n)).2) ∧ DiskOk (Ext R w w') w' d (runs S (secOps i b n)).1 ∧ FrD R w w' := by
  have qL := len_by
  have HB := Lib.hid hb
  have hcp := hb.le
  have hkl := hb.lt _ rfl
  have hp0 := h.lt
  have H := Lib.hid h
  have HRl : Hid (∀ x, R x → x < w.heap.size) := fun x hx => hd.lt hx
  have HD0 : Hid (DiskOk (Ext R w w) w d (runs S (secOps i b 0)).1) := hd.ext (Nat.le_refl _) hd
  have HWs : Hid (∀ k, (runs S (secOps i b k)).1.waits.length ≤ S.waits.length + k) := fun k => by have := runs_waits S (secOps i b k); rwa [secOps_length] at this
  have HWl : Hid (∀ k, (runs S (secOps i b k)).1.now.length = S.now.length) := fun k => runs_length S _
  have HBl := Lib.hid hbl
  rw [hbl] at hcp
  rw [hbl]
  obtain ⟨m, hm⟩ : ∃ m, 64 * n = m := ⟨_, rfl⟩
  rw [hm] at hcp
  rw [hm]
  clear h hd hb hbl
  go_enter Tryd.func18, Tryd.ntmps18
  go_wp2
  go_loopw [7, 8] (fun iv _ wr => ∃ k : Nat, k ≤ n ∧ iv = .int .i64 (64 * k : Nat) ∧ Hid (DiskOk (Ext R w wr) wr d (runs S (secOps i b k)).1) ∧ Hid ((runs S (secOps i b k)).2 = 0) ∧ Hid (FrD R w wr)) (fun iv _ _ => 600 - (intOf iv).toNat)
  case atStart => exact ⟨0, by omega, rfl, HD0, rfl, Fr.refl _ _⟩
  case round =>
    clear HD0
    obtain ⟨k, hk, rfl, hD, hC0, hF⟩ := hrel
    by_cases hlt : k < n
    · have hfb := H.out.fr hF.out.fr hp
      have HFb := Lib.hid hfb
      have hcut := bytesIn_part' (HB.out.h.fr hF.out.fr (fun a ha => by injection ha with ha; subst ha; exact hkb)) (64 * k) (m - 64 * k) (by rw [HBl.out]; omega)
      have hs : BytesIn wr (some ⟨kb, ko + 64 * k, none⟩) ((b.drop (64 * k)).take 64) := bytesIn_take hcut 64
      have hslen : ((b.drop (64 * k)).take 64).length = 64 := by rw [List.length_take, List.length_drop, HBl.out]; omega
      have hkl2 : kb < wr.heap.size := Nat.lt_of_lt_of_le hkl hF.out.size
      have HWr : Hid (∀ (W : World) cc, Fr Nob wr W → Calls Tryd.prog 29 #[.pointer (some ⟨d, 0, none⟩), .int .i64 (i + k : Nat), .slice (some ⟨kb, ko + 64 * k, none⟩) 64 cc] W fun e w' => e = .returned (.int .i64 (runs S (secOps i b (k + 1))).2) ∧ DiskOk (Ext (Ext R w wr) W w') w' d (runs S (secOps i b (k + 1))).1 ∧ FrD (Ext R w wr) W w') := by
        intro W cc hW
        have h1 := HWl.out k
        have h2 := HWs.out k
        rw [show secOps i b (k + 1) = secOps i b k ++ [.wr (i + k) ((b.drop (64 * k)).take 64)] from rfl, runs_snoc hC0.out]
        by_cases hdd : (runs S (secOps i b k)).1.dead = true
        · rw [if_pos hdd]
          refine (Write_dead (i + k : Nat) _ cc (hD.out.new hW) (by omega) (by omega) hdd).mono ?_
          rintro e w' ⟨rfl, rfl⟩
          exact ⟨rfl, (hD.out.new hW).ext (Nat.le_refl _) (hD.out.new hW), Fr.refl _ _⟩
        · rw [if_neg hdd]
          exact Write_goodD (i + k) ⟨kb, ko + 64 * k, none⟩ cc ((b.drop (64 * k)).take 64) (hD.out.new hW) (by omega) (by simpa using hdd) hslen (fun j u hu => bytesIn_cells (hs.new hW) j u hu) (Nat.lt_of_lt_of_le hkl2 hW.size) (by omega)
      have f0 := hfb.cell 0
      have fp := hfb.lt
      simp only [List.getElem?_toArray, List.getElem?_cons_zero] at f0
      have t1 : ((64 * k : Nat) : Int) < (m : Int) := by omega
      have t2 : ((64 * k : Nat) : Int).tdiv 64 = (k : Int) := by rw [Int.tdiv_eq_ediv_of_nonneg (by omega)]; omega
      have t3 : ((64 * k : Nat) : Int) + 64 = ((64 * (k + 1) : Nat) : Int) := by omega
      have t4 : IntKind.i64.wrap (((64 * (k + 1) : Nat)) : Int) = ((64 * (k + 1) : Nat) : Int) := by rw [IntKind.wrap_i64]; omega
      have t5 : (i : Int) + (k : Int) = ((i + k : Nat) : Int) := by omega
      have t6 : IntKind.i64.wrap ((i + k : Nat) : Int) = ((i + k : Nat) : Int) := by rw [IntKind.wrap_i64]; omega
      have t7 : (64 * (k + 1)) ≤ m := by omega
      have t8 : 64 * (k + 1) - 64 * k = 64 := by omega
      obtain ⟨q, hq⟩ : ∃ q, 64 * k = q := ⟨_, rfl⟩
      obtain ⟨q', hq'⟩ : ∃ q, 64 * (k + 1) = q := ⟨_, rfl⟩
      obtain ⟨ik, hik⟩ : ∃ q, i + k = q := ⟨_, rfl⟩
      rw [hq] at HWr t1 t2 t3 t8 ⊢
      rw [hq'] at t3 t4 t7 t8
      rw [hik] at HWr t5 t6
      have HQ' := Lib.hid hq'
      have HQ := Lib.hid hq
      have hqm : q ≤ 448 := by omega
      clear hcut hs hslen hfb hq hq' hik
      go_wp2
      have hS : Fr Nob wr wr.drew := (Fr.refl _ wr).drew
      have hpE : ¬ Ext R w wr p := fun h => by rcases h with h | h; exact hp h; have := hp0; omega
      have hS0 : Fr (fun x => Ext R w wr x) wr wr.drew := (Fr.refl _ wr).drew
      refine Rg.begin' (Fr (fun x => Ext R w wr x) wr) [] (by kernel_rfl) ?_
      refine Rg.op 0 (some 15) hS0 (v := ?v0r4) (a' := ?a0r4) (hy := fun wz hwz => ?h0r4) (ha := ?b0r4) (h := ?_)
      case h0r4 => (go_simp; try with_reducible rfl)
      case b0r4 => (simp only [Act.put, List.setIfInBounds_toArray, List.set_cons_zero, List.set_cons_succ]; rfl)
      refine Rg.op 1 (some 16) hS0 (v := ?v1r4) (a' := ?a1r4) (hy := fun wz hwz => ?h1r4) (ha := ?b1r4) (h := ?_)
      case h1r4 => (go_simp; try with_reducible rfl)
      case b1r4 => (simp only [Act.put, List.setIfInBounds_toArray, List.set_cons_zero, List.set_cons_succ]; rfl)
      refine Rg.op 2 (some 17) hS0 (v := ?v2r4) (a' := ?a2r4) (hy := fun wz hwz => ?h2r4) (ha := ?b2r4) (h := ?_)
      case h2r4 => (go_simp; try with_reducible rfl)
      case b2r4 => (simp only [Act.put, List.setIfInBounds_toArray, List.set_cons_zero, List.set_cons_succ]; rfl)
      refine Rg.op 3 (some 18) hS0 (v := ?v3r4) (a' := ?a3r4) (hy := fun wz hwz => ?h3r4) (ha := ?b3r4) (h := ?_)
      case h3r4 => (have hb := (HFb.out.fr hwz (fun h => hpE h)); have cc := Blk.cell hb 0; have hpp := Blk.lt hb; simp only [List.getElem?_toArray, List.getElem?_cons_zero] at cc; clear hb; go_simp; try with_reducible rfl)
      case b3r4 => (simp only [Act.put, List.setIfInBounds_toArray, List.set_cons_zero, List.set_cons_succ]; rfl)
      refine Rg.op 4 (some 19) hS0 (v := ?v4r4) (a' := ?a4r4) (hy := fun wz hwz => ?h4r4) (ha := ?b4r4) (h := ?_)
      case h4r4 => (go_simp; try with_reducible rfl)
      case b4r4 => (simp only [Act.put, List.setIfInBounds_toArray, List.set_cons_zero, List.set_cons_succ]; rfl)
      refine Rg.op 5 (some 20) hS0 (v := ?v5r4) (a' := ?a5r4) (hy := fun wz hwz => ?h5r4) (ha := ?b5r4) (h := ?_)
      case h5r4 => (go_simp; try with_reducible rfl)
      case b5r4 => (simp only [Act.put, List.setIfInBounds_toArray, List.set_cons_zero, List.set_cons_succ]; rfl)
      refine Rg.op 6 (some 21) hS0 (v := (.int .i64 k)) (a' := ?a6r4) (hy := fun wz hwz => ?h6r4) (ha := ?b6r4) (h := ?_)
      case h6r4 => (have y1 := t2; have y2 : IntKind.i64.wrap (k : Int) = (k : Int) := (by rw [IntKind.wrap_i64]; omega); go_simp; try with_reducible rfl)
      case b6r4 => (simp only [Act.put, List.setIfInBounds_toArray, List.set_cons_zero, List.set_cons_succ]; rfl)
      refine Rg.op 7 (some 22) hS0 (v := (.int .i64 ik)) (a' := ?a7r4) (hy := fun wz hwz => ?h7r4) (ha := ?b7r4) (h := ?_)
      case h7r4 => (have y1 := t5; have y2 := t6; go_simp; try with_reducible rfl)
      case b7r4 => (simp only [Act.put, List.setIfInBounds_toArray, List.set_cons_zero, List.set_cons_succ]; rfl)
      refine Rg.op 8 (some 23) hS0 (v := ?v8r4) (a' := ?a8r4) (hy := fun wz hwz => ?h8r4) (ha := ?b8r4) (h := ?_)
      case h8r4 => (go_simp; try with_reducible rfl)
      case b8r4 => (simp only [Act.put, List.setIfInBounds_toArray, List.set_cons_zero, List.set_cons_succ]; rfl)
      refine Rg.op 9 (some 24) hS0 (v := ?v9r4) (a' := ?a9r4) (hy := fun wz hwz => ?h9r4) (ha := ?b9r4) (h := ?_)
      case h9r4 => (go_simp; try with_reducible rfl)
      case b9r4 => (simp only [Act.put, List.setIfInBounds_toArray, List.set_cons_zero, List.set_cons_succ]; rfl)
      refine Rg.op 10 (some 25) hS0 (v := ?v10r4) (a' := ?a10r4) (hy := fun wz hwz => ?h10r4) (ha := ?b10r4) (h := ?_)
      case h10r4 => (go_simp; try with_reducible rfl)
      case b10r4 => (simp only [Act.put, List.setIfInBounds_toArray, List.set_cons_zero, List.set_cons_succ]; rfl)
      refine Rg.op 11 (some 26) hS0 (v := (.int .i64 q')) (a' := ?a11r4) (hy := fun wz hwz => ?h11r4) (ha := ?b11r4) (h := ?_)
      case h11r4 => (have y1 := t3; have y2 := t4; go_simp; try with_reducible rfl)
      case b11r4 => (simp only [Act.put, List.setIfInBounds_toArray, List.set_cons_zero, List.set_cons_succ]; rfl)
      refine Rg.op 12 (some 27) hS0 (v := (.slice (some ⟨kb, ko + q, none⟩) 64 (c - q))) (a' := ?a12r4) (hy := fun wz hwz => ?h12r4) (ha := ?b12r4) (h := ?_)
      case h12r4 => (have z1 : (0 : Int) ≤ (q : Int) := (by omega); have z2 : (q : Int) ≤ (q' : Int) := (by omega); have z3 : (q' : Int) ≤ (c : Int) := (by omega); have z4 : ¬ c = q := (by omega); have z5 := t8; go_simp; try with_reducible rfl)
      case b12r4 => (simp only [Act.put, List.setIfInBounds_toArray, List.set_cons_zero, List.set_cons_succ]; rfl)
      refine Rg.call 13 (some 28) (hrun := ?h13r4) (hcall := HWr.out _ (c - q) hS) (h := ?_)
      case h13r4 => (go_simp)
      rintro e w1 ⟨rfl, hd1, hf1⟩
      have HD1 := Lib.hid hd1
      have HF1 := Lib.hid hf1
      have hT : Fr (fun x => Ext R w wr x) wr w1 := hS0.step hf1.fr (fun i _ h => h)
      refine ⟨_, ?a13r4, rfl, ?b13r4, (fun _ => hT), ?_⟩
      case b13r4 => (simp only [Act.put, List.setIfInBounds_toArray, List.set_cons_zero, List.set_cons_succ]; rfl)
      refine Rg.op 14 (some 8) hT (v := ?v14r4) (a' := ?a14r4) (hy := fun wz hwz => ?h14r4) (ha := ?b14r4) (h := ?_)
      case h14r4 => (go_simp; try with_reducible rfl)
      case b14r4 => (simp only [Act.put, List.setIfInBounds_toArray, List.set_cons_zero, List.set_cons_succ]; rfl)
      refine Rg.done _ (h := ?_)
      have hsz0 := hF.out.size
      have hsz1 : wr.heap.size ≤ w1.heap.size := HF1.out.size
      have hdz : wr.drew.heap.size = wr.heap.size := rfl
      have HDk : Hid (DiskOk (Ext R w w1) w1 d (runs S (secOps i b (k + 1))).1) := HD1.out.more (fun x hx => by
        rcases hx with (hx | hx) | hx
        · exact .inl hx
        · exact .inr ⟨hx.1, by omega⟩
        · exact .inr ⟨by omega, hx.2⟩) (fun x hx => by
        rcases hx with hx | hx
        · have := HRl.out x hx; omega
        · exact hx.2)
      have HFk : Hid (FrD R w w1) := FrD.step (Fr.drew hF.out) (fun i h => h) HF1.out (fun i hi h => by
        rcases h with h | h
        · exact h
        · omega)
      clear HD1 HF1 hT hS hS0 hC0
      obtain ⟨cd, hcd⟩ : ∃ cd, (runs S (secOps i b (k + 1))).2 = cd := ⟨_, rfl⟩
      rw [hcd]
      have HCd := Lib.hid hcd
      rcases (by have := runs_code S (secOps i b (k + 1)); rw [hcd] at this; exact this : cd = 0 ∨ cd = 50) with h0 | h50
      · subst h0
        clear hcd
        go_wp2
        go_roundw
        case rel => exact ⟨k + 1, by omega, by rw [HQ'.out], HDk, HCd.out, HFk⟩
        case measure => simp [intOf]; omega
      · subst h50
        have HE : Hid (runs S (secOps i b n) = runs S (secOps i b (k + 1))) := runs_stuck (secOps_split i b (k + 1) n (by omega)) (by rw [hcd]; decide)
        clear hcd
        go_wp2
        go_ret
        rw [HE.out, HCd.out]
        exact ⟨rfl, HDk.out, HFk.out⟩
    · obtain rfl : k = n := by omega
      have t1 : ¬ ((64 * k : Nat) : Int) < (m : Int) := by omega
      obtain ⟨q, hq⟩ : ∃ q, 64 * k = q := ⟨_, rfl⟩
      rw [hq] at t1 ⊢
      go_wp2
      try (rw [qL]; go_wp2)
      go_ret
      rw [hC0.out]
      exact ⟨rfl, hD.out, hF.out⟩
end Go.Proofs.YtilclfeaolhoeaaDoor
