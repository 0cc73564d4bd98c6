/-
  Pool7, Pool8, in one text.
-/
import Derived.Test.YtccmmnacejdeoaaGreatDoorMg25
import Derived.Test.YtccmmnacejdeoaaGreatDoorMg24
/-
  victim: the page that is evicted next.
-/
namespace Go.Proofs.YtccmmnacejdeoaaGreatDoor
set_option linter.unusedSimpArgs false
set_option linter.unusedVariables false
open Go.RowKit Go.Maps

/-- Frames that differ in what was used alone. -/
def SameUsed (fs gs : List (Nat × Frm)) : Prop := gs.length = fs.length ∧ ∀ (i : Nat) y, gs[i]? = some y → ∃ z, fs[i]? = some z ∧ z.1 = y.1 ∧ z.2.x = y.2.x ∧ z.2.dirty = y.2.dirty
theorem SameUsed.refl (fs : List (Nat × Frm)) : SameUsed fs fs := ⟨rfl, fun i y h => ⟨y, h, rfl, rfl, rfl⟩⟩
theorem SameUsed.set {fs gs : List (Nat × Frm)} (h : SameUsed fs gs) {i b : Nat} {m : Frm} (hi : gs[i]? = some (b, m)) (u : Bool) : SameUsed fs (gs.set i (b, { m with used := u })) := by
  refine ⟨by rw [List.length_set]; exact h.1, fun j y hj => ?_⟩
  rw [List.getElem?_set] at hj
  split at hj
  · rename_i e
    subst e
    split at hj
    · injection hj with hj
      subst hj
      obtain ⟨z, h1, h2, h3, h4⟩ := h.2 i _ hi
      exact ⟨z, h1, h2, h3, h4⟩
    · cases hj
  · exact h.2 j y hj
theorem Views.same {fs gs : List (Nat × Frm)} {cur : Nat → Option PgV} {pages : Nat} {V : Nat → PgV} (h : Views fs cur pages V) (hs : SameUsed fs gs) : Views gs cur pages V := by
  have hm : ∀ y ∈ gs, ∃ z ∈ fs, z.2.x = y.2.x ∧ z.2.dirty = y.2.dirty := fun y hy => by
    obtain ⟨i, hi⟩ := List.mem_iff_getElem?.1 hy
    obtain ⟨z, h1, _, h2, h3⟩ := hs.2 i y hi
    exact ⟨z, List.mem_of_getElem? h1, h2, h3⟩
  refine ⟨fun y hy => ?_, fun y hy => ?_, fun no hno hc => h.file no hno (fun y hy he => ?_)⟩
  · obtain ⟨z, hz, e, _⟩ := hm y hy; rw [← e]; exact h.ok z hz
  · obtain ⟨z, hz, e, _⟩ := hm y hy; rw [← e]; exact h.held z hz
  · obtain ⟨i, hi⟩ := List.mem_iff_getElem?.1 hy
    have hil := (List.getElem?_eq_some_iff.1 hi).1
    obtain ⟨y', hg⟩ : ∃ y', gs[i]? = some y' := ⟨_, List.getElem?_eq_getElem (by rw [hs.1]; exact hil)⟩
    obtain ⟨z, h1, _, h2, h3⟩ := hs.2 i _ hg
    rw [hi] at h1
    injection h1 with h1
    subst h1
    rw [h3]
    exact hc _ (List.mem_of_getElem? hg) (by rw [← h2]; exact he)
/-- How many are marked as used. -/
def isT : Option Value → Nat
  | some (.bool true) => 1
  | _ => 0
def usedCnt (fs : List (Nat × Frm)) (w : World) : Nat := (fs.map fun y => isT (w.cell? ⟨y.1, 4, none⟩)).sum
theorem sum_lt {α : Type} (l : List α) (f g : α → Nat) (hle : ∀ y ∈ l, f y ≤ g y) {y0 : α} (h0 : y0 ∈ l) (hlt : f y0 < g y0) : (l.map f).sum < (l.map g).sum := by
  induction l with
  | nil => simp at h0
  | cons y l ih =>
    simp only [List.map_cons, List.sum_cons]
    have hle' : ∀ z ∈ l, f z ≤ g z := fun z hz => hle z (List.mem_cons_of_mem _ hz)
    have hsum : (l.map f).sum ≤ (l.map g).sum := by
      clear ih h0 hle
      induction l with
      | nil => simp
      | cons z l ih2 =>
        simp only [List.map_cons, List.sum_cons]
        have h1 := hle' z (List.mem_cons_self ..)
        have h2 := ih2 (fun x hx => hle' x (List.mem_cons_of_mem _ hx))
        omega
    rcases List.mem_cons.1 h0 with rfl | h0
    · omega
    · have h1 := hle y (List.mem_cons_self ..)
      have h2 := ih hle' h0
      omega
section
variable {RP RQ : Nat → Prop} {w : World} {p f l B : Nat} {frames hand : Int} {rv : Value} {fs : List (Nat × Frm)}
set_option maxHeartbeats 6400000 in
set_option maxRecDepth 100000 in
theorem victim_any (h : PoolAt RP RQ w p f l frames hand B rv fs) (hpos : 0 < fs.length) (hok : ∀ y ∈ fs, y.2.x.no < 100000) :
    Calls Tryz.prog 48 #[.pointer (some ⟨p, 0, none⟩)] w fun e w' => ∃ (i b : Nat) (m : Frm) (gs : List (Nat × Frm)) (hand' : Int), e = .returned (.int .i64 m.x.no) ∧ gs[i]? = some (b, m) ∧ PoolAt RP RQ w' p f l frames hand' B rv gs ∧ SameUsed fs gs ∧ Fr RP w w' := by
  have qL := len_round
  have H := Lib.hid h
  have HOk := Lib.hid hok
  have hf64 := h.f1
  have hfl := h.len
  obtain ⟨n, hn⟩ : ∃ n, fs.length = n := ⟨_, rfl⟩
  have HNl := Lib.hid hn
  rw [hn] at hpos hfl
  have hro := h.rnd
  rw [hn] at hro
  obtain ⟨g, cap, erv, _⟩ := hro.form (by omega)
  have HErv := Lib.hid erv
  clear h hok hn hro erv
  go_enter Tryz.func48, Tryz.ntmps48
  go_wp2
  go_step3
  go_wp2
  try go_step3
  try go_wp2
  go_loopw [4] (fun xv wr => Hid (∃ gs hand', PoolAt RP RQ wr p f l frames hand' B rv gs ∧ SameUsed fs gs ∧ Fr RP w wr)) (fun _ wr => usedCnt fs wr)
  case atStart => exact ⟨fs, hand, H.out, SameUsed.refl fs, Fr.refl _ _⟩
  case round =>
    obtain ⟨gs, hd, hP, hsu, hF⟩ := hrel.out
    clear hrel
    have HSu := Lib.hid hsu
    have HF := Lib.hid hF
    have HP := Lib.hid hP
    have h0 := hP.h0
    have h64 := hP.h1
    have hgl : gs.length = n := by rw [hsu.1, HNl.out]
    obtain ⟨k, hk⟩ : ∃ k : Nat, (k : Int) = hd % (n : Int) := ⟨(hd % (n : Int)).toNat, by have := Int.emod_nonneg hd (show (n : Int) ≠ 0 by omega); omega⟩
    have k1' : k < n := by have := Int.emod_lt_of_pos hd (show (0 : Int) < n by omega); omega
    have e1 : Int.tmod hd (n : Int) = (k : Int) := by rw [Int.tmod_eq_emod_of_nonneg h0, hk]
    have hn0 : ¬ (n : Int) = 0 := by omega
    have hn0' : ¬ n = 0 := by omega
    have k0 : (0 : Int) ≤ (k : Int) := by omega
    have k1 : (k : Int) < (n : Int) := by omega
    have c5 := hP.blk.cell 5
    have c4 := hP.blk.cell 4
    have q5 := hP.blk.frozen 5
    have z0 := hP.blk.lt
    simp only [List.getElem?_toArray, List.getElem?_cons_zero, List.getElem?_cons_succ] at c4 c5
    rw [HErv.out] at c4
    obtain ⟨y, hy⟩ : ∃ y, gs[k]? = some y := ⟨_, List.getElem?_eq_getElem (by rw [hgl]; exact k1')⟩
    obtain ⟨b, m⟩ := y
    have hmno : m.x.no < 100000 := by
      obtain ⟨z, z1, _, z2, _⟩ := hsu.2 k _ hy
      have := HOk.out z (List.mem_of_getElem? z1)
      rw [z2] at this
      exact this
    have HY := Lib.hid hy
    have HHeld : Hid (heldAt (ksOf gs) (m.x.no : Int) = some b) := heldAt_at hP.dis (ksOf_of hy)
    have hP1 : PoolAt RP RQ ((wr.setCell ⟨p, 5, none⟩ (.int .i64 k)).drew) p f l frames k B rv gs := (hP.hand_ (k : Int) k0 (by omega)).new ((Fr.refl _ _).drew)
    have hF1 : Fr RP w ((wr.setCell ⟨p, 5, none⟩ (.int .i64 k)).drew) := ((hF.setCell (p := ⟨p, 5, none⟩) (.inr hP.rp) _).drew)
    have hfc : ∀ z ∈ fs, ((wr.setCell ⟨p, 5, none⟩ (.int .i64 k)).drew).cell? ⟨z.1, 4, none⟩ = wr.cell? ⟨z.1, 4, none⟩ := fun z hz => by
      obtain ⟨i, hi⟩ := List.mem_iff_getElem?.1 hz
      have hil := (List.getElem?_eq_some_iff.1 hi).1
      obtain ⟨y', hg⟩ : ∃ y', gs[i]? = some y' := ⟨_, List.getElem?_eq_getElem (by rw [hsu.1]; exact hil)⟩
      obtain ⟨z', h1, h2, _⟩ := hsu.2 i _ hg
      rw [hi] at h1
      injection h1 with h1
      subst h1
      obtain ⟨cs, hcs⟩ := (hP.frm _ (List.mem_of_getElem? hg)).blk
      rw [← h2] at hcs
      have hb2 := (hcs.far (p := ⟨p, 5, none⟩) (fun e => Blk.ne_ hP.blk hcs (by decide) e.symm) (.int .i64 k)).drew
      rw [hb2.cell, hcs.cell]
    have HFc := Lib.hid hfc
    clear hP hsu hF hy hfc hgl hk h0
    go_wp2
    have hS : Fr Nob wr wr.drew := (Fr.refl _ wr).drew
    refine Rg.begin (Fr Nob wr) [12] (by kernel_rfl) ?_
    refine Rg.op 0 (some 5) hS (v := ?v0a) (hy := fun wz hwz => ?h0a) (h := ?_)
    case h0a => (go_simp; try with_reducible rfl)
    refine Rg.op 1 (some 6) hS (v := ?v1a) (hy := fun wz hwz => ?h1a) (h := ?_)
    case h1a => (have hpp := Nat.lt_of_lt_of_le z0 hwz.size; go_simp; try with_reducible rfl)
    refine Rg.op 2 (some 7) hS (v := ?v2a) (hy := fun wz hwz => ?h2a) (h := ?_)
    case h2a => (go_simp; try with_reducible rfl)
    refine Rg.op 3 (some 8) hS (v := (.int .i64 hd)) (hy := fun wz hwz => ?h3a) (h := ?_)
    case h3a => (have cx := (hwz.cell (p := ⟨p, 5, none⟩) z0 (fun h => h)).trans c5; have hpp := Nat.lt_of_lt_of_le z0 hwz.size; go_simp; try with_reducible rfl)
    refine Rg.op 4 (some 9) hS (v := ?v4a) (hy := fun wz hwz => ?h4a) (h := ?_)
    case h4a => (go_simp; try with_reducible rfl)
    refine Rg.op 5 (some 10) hS (v := ?v5a) (hy := fun wz hwz => ?h5a) (h := ?_)
    case h5a => (have hpp := Nat.lt_of_lt_of_le z0 hwz.size; go_simp; try with_reducible rfl)
    refine Rg.op 6 (some 11) hS (v := ?v6a) (hy := fun wz hwz => ?h6a) (h := ?_)
    case h6a => (go_simp; try with_reducible rfl)
    refine Rg.op 7 (some 12) hS (v := (.slice (some ⟨g, 0, none⟩) n cap)) (hy := fun wz hwz => ?h7a) (h := ?_)
    case h7a => (have cx := (hwz.cell (p := ⟨p, 4, none⟩) z0 (fun h => h)).trans c4; have hpp := Nat.lt_of_lt_of_le z0 hwz.size; go_simp; try with_reducible rfl)
    refine Rg.op 8 (some 13) hS (v := (.int .i64 n)) (hy := fun wz hwz => ?h8a) (h := ?_)
    case h8a => (have hq := qL; go_simp; try with_reducible rfl)
    refine Rg.op 9 (some 14) hS (v := (.int .i64 k)) (hy := fun wz hwz => ?h9a) (h := ?_)
    case h9a => (have hq := e1; have hq2 := hn0'; go_simp; try with_reducible rfl)
    refine Rg.op 10 (some 15) hS (v := ?v10a) (hy := fun wz hwz => ?h10a) (h := ?_)
    case h10a => (have hpp := Nat.lt_of_lt_of_le z0 hwz.size; go_simp; try with_reducible rfl)
    refine Rg.op 11 (some 16) hS (v := ?v11a) (hy := fun wz hwz => ?h11a) (h := ?_)
    case h11a => (go_simp; try with_reducible rfl)
    have hpp : p < wr.drew.heap.size := z0
    have b5 : wr.drew.cell? ⟨p, 5, none⟩ = some (.int .i64 hd) := c5
    have q5x : wr.drew.frozen? ⟨p, 5, none⟩ = false := q5
    refine Rg.store 12 (w' := ?w12a) (hrun := ?h12a) (hS := (fun h => absurd (by decide) h)) (h := ?_)
    case h12a => (go_simp; try with_reducible rfl)
    refine Rg.done _ (h := ?_)
    generalize hW1 : (wr.setCell ⟨p, 5, none⟩ (.int .i64 k)).drew = w1 at *
    have HP1 := Lib.hid hP1
    have HF1 := Lib.hid hF1
    have d3 := hP1.blk.cell 3
    have d4 := hP1.blk.cell 4
    have d5 := hP1.blk.cell 5
    have dq5 := hP1.blk.frozen 5
    have z1 := hP1.blk.lt
    have HMap1 := Lib.hid hP1.map
    simp only [List.getElem?_toArray, List.getElem?_cons_zero, List.getElem?_cons_succ] at d3 d4 d5
    rw [HErv.out] at d4
    have hgl : gs.length = n := by rw [HSu.out.1, HNl.out]
    obtain ⟨dg, zg⟩ : w1.cell? ⟨g, k, none⟩ = some (.int .i64 m.x.no) ∧ g < w1.heap.size := by
      have ho := hP1.rnd
      rw [nosOf_nums, hgl, HErv.out] at ho
      obtain ⟨g', o', e, hc⟩ := (RoundIn.own ho) (by rw [numsOf_length]; omega)
      injection e with e
      injection e with e2 e3
      subst e2 e3
      have := hc k _ (numsOf_get HY.out)
      rw [Nat.zero_add] at this
      exact ⟨this, cell_lt this⟩
    obtain ⟨kb, ko, cc, _, hfb, _⟩ := (hP1.frm _ (List.mem_of_getElem? HY.out)).2
    have HFb := Lib.hid hfb
    have fb4 := hfb.cell 4
    have fq4 := hfb.frozen 4
    have fz := hfb.lt
    simp only [List.getElem?_toArray, List.getElem?_cons_zero, List.getElem?_cons_succ] at fb4
    clear hP1 hF1 c4 c5 q5 z0 hS hW1 hfb hgl
    go_wp2
    have hT : Fr Nob w1 w1.drew := (Fr.refl _ w1).drew
    refine Rg.begin (Fr Nob w1) [] (by kernel_rfl) ?_
    refine Rg.op 0 (some 17) hT (v := ?v0b) (hy := fun wz hwz => ?h0b) (h := ?_)
    case h0b => (go_simp; try with_reducible rfl)
    refine Rg.op 1 (some 18) hT (v := ?v1b) (hy := fun wz hwz => ?h1b) (h := ?_)
    case h1b => (have hpp := Nat.lt_of_lt_of_le z1 hwz.size; go_simp; try with_reducible rfl)
    refine Rg.op 2 (some 19) hT (v := ?v2b) (hy := fun wz hwz => ?h2b) (h := ?_)
    case h2b => (go_simp; try with_reducible rfl)
    refine Rg.op 3 (some 20) hT (v := (.map (some B))) (hy := fun wz hwz => ?h3b) (h := ?_)
    case h3b => (have cx := (hwz.cell (p := ⟨p, 3, none⟩) z1 (fun h => h)).trans d3; have hpp := Nat.lt_of_lt_of_le z1 hwz.size; go_simp; try with_reducible rfl)
    refine Rg.op 4 (some 21) hT (v := ?v4b) (hy := fun wz hwz => ?h4b) (h := ?_)
    case h4b => (go_simp; try with_reducible rfl)
    refine Rg.op 5 (some 22) hT (v := ?v5b) (hy := fun wz hwz => ?h5b) (h := ?_)
    case h5b => (have hpp := Nat.lt_of_lt_of_le z1 hwz.size; go_simp; try with_reducible rfl)
    refine Rg.op 6 (some 23) hT (v := ?v6b) (hy := fun wz hwz => ?h6b) (h := ?_)
    case h6b => (go_simp; try with_reducible rfl)
    refine Rg.op 7 (some 24) hT (v := (.slice (some ⟨g, 0, none⟩) n cap)) (hy := fun wz hwz => ?h7b) (h := ?_)
    case h7b => (have cx := (hwz.cell (p := ⟨p, 4, none⟩) z1 (fun h => h)).trans d4; have hpp := Nat.lt_of_lt_of_le z1 hwz.size; go_simp; try with_reducible rfl)
    refine Rg.op 8 (some 25) hT (v := ?v8b) (hy := fun wz hwz => ?h8b) (h := ?_)
    case h8b => (go_simp; try with_reducible rfl)
    refine Rg.op 9 (some 26) hT (v := ?v9b) (hy := fun wz hwz => ?h9b) (h := ?_)
    case h9b => (have hpp := Nat.lt_of_lt_of_le z1 hwz.size; go_simp; try with_reducible rfl)
    refine Rg.op 10 (some 27) hT (v := ?v10b) (hy := fun wz hwz => ?h10b) (h := ?_)
    case h10b => (go_simp; try with_reducible rfl)
    refine Rg.op 11 (some 28) hT (v := (.int .i64 k)) (hy := fun wz hwz => ?h11b) (h := ?_)
    case h11b => (have cx := (hwz.cell (p := ⟨p, 5, none⟩) z1 (fun h => h)).trans d5; have hpp := Nat.lt_of_lt_of_le z1 hwz.size; go_simp; try with_reducible rfl)
    refine Rg.op 12 (some 29) hT (v := (.pointer (some ⟨g, k, none⟩))) (hy := fun wz hwz => ?h12b) (h := ?_)
    case h12b => (have hk1 := k1; have hk0 := k0; go_simp; try with_reducible rfl)
    refine Rg.op 13 (some 30) hT (v := (.int .i64 m.x.no)) (hy := fun wz hwz => ?h13b) (h := ?_)
    case h13b => (have cx := (hwz.cell (p := ⟨g, k, none⟩) zg (fun h => h)).trans dg; have hpp := Nat.lt_of_lt_of_le zg hwz.size; go_simp; try with_reducible rfl)
    refine Rg.op 14 (some 31) hT (v := (.pointer (some ⟨b, 0, none⟩))) (hy := fun wz hwz => ?h14b) (h := ?_)
    case h14b => (have hq := (HMap1.out.fr hwz (fun h => h)).run_get key_law Tryz.underlying67 (mapif_zero _) (m.x.no : Int) (key_of _ (by omega) (by omega)); rw [HHeld.out] at hq; have hq : (Instr.lookup 67 (.map (some B)) (.int .i64 m.x.no) false).run Tryz.prog wz = .ok (.pointer (some ⟨b, 0, none⟩)) wz := hq; go_simp; rfl)
    refine Rg.op 15 (some 4) hT (v := ?v15b) (hy := fun wz hwz => ?h15b) (h := ?_)
    case h15b => (go_simp; try with_reducible rfl)
    refine Rg.done _ (h := ?_)
    cases hu : m.used
    · have HU := Lib.hid hu
      rw [hu] at fb4
      clear hu
      go_wp2
      have hT5 : Fr Nob w1 w1.drew.drew := ((Fr.refl _ w1).drew).drew
      refine Rg.begin (Fr Nob w1) [] (by kernel_rfl) ?_
      refine Rg.op 0 (some 37) hT5 (v := ?v0c) (hy := fun wz hwz => ?h0c) (h := ?_)
      case h0c => (go_simp; try with_reducible rfl)
      refine Rg.op 1 (some 38) hT5 (v := ?v1c) (hy := fun wz hwz => ?h1c) (h := ?_)
      case h1c => (have hpp := Nat.lt_of_lt_of_le z1 hwz.size; go_simp; try with_reducible rfl)
      refine Rg.op 2 (some 39) hT5 (v := ?v2c) (hy := fun wz hwz => ?h2c) (h := ?_)
      case h2c => (go_simp; try with_reducible rfl)
      refine Rg.op 3 (some 40) hT5 (v := (.slice (some ⟨g, 0, none⟩) n cap)) (hy := fun wz hwz => ?h3c) (h := ?_)
      case h3c => (have cx := (hwz.cell (p := ⟨p, 4, none⟩) z1 (fun h => h)).trans d4; have hpp := Nat.lt_of_lt_of_le z1 hwz.size; go_simp; try with_reducible rfl)
      refine Rg.op 4 (some 41) hT5 (v := ?v4c) (hy := fun wz hwz => ?h4c) (h := ?_)
      case h4c => (go_simp; try with_reducible rfl)
      refine Rg.op 5 (some 42) hT5 (v := ?v5c) (hy := fun wz hwz => ?h5c) (h := ?_)
      case h5c => (have hpp := Nat.lt_of_lt_of_le z1 hwz.size; go_simp; try with_reducible rfl)
      refine Rg.op 6 (some 43) hT5 (v := ?v6c) (hy := fun wz hwz => ?h6c) (h := ?_)
      case h6c => (go_simp; try with_reducible rfl)
      refine Rg.op 7 (some 44) hT5 (v := (.int .i64 k)) (hy := fun wz hwz => ?h7c) (h := ?_)
      case h7c => (have cx := (hwz.cell (p := ⟨p, 5, none⟩) z1 (fun h => h)).trans d5; have hpp := Nat.lt_of_lt_of_le z1 hwz.size; go_simp; try with_reducible rfl)
      refine Rg.op 8 (some 45) hT5 (v := (.pointer (some ⟨g, k, none⟩))) (hy := fun wz hwz => ?h8c) (h := ?_)
      case h8c => (have hk1 := k1; have hk0 := k0; go_simp; try with_reducible rfl)
      refine Rg.op 9 (some 46) hT5 (v := (.int .i64 m.x.no)) (hy := fun wz hwz => ?h9c) (h := ?_)
      case h9c => (have cx := (hwz.cell (p := ⟨g, k, none⟩) zg (fun h => h)).trans dg; have hpp := Nat.lt_of_lt_of_le zg hwz.size; go_simp; try with_reducible rfl)
      refine Rg.op 10 (some 3) hT5 (v := ?v10c) (hy := fun wz hwz => ?h10c) (h := ?_)
      case h10c => (go_simp; try with_reducible rfl)
      refine Rg.done _ (h := ?_)
      go_wp2
      try rw [Exit.noGoto_ret]
      go_ret
      exact ⟨k, b, m, gs, (k : Int), rfl, HY.out, HP1.out.new hT5, HSu.out, (HF1.out.drew).drew⟩
    · have HU := Lib.hid hu
      rw [hu] at fb4
      clear hu
      go_wp2
      have hfr := HP1.out.frm _ (List.mem_of_getElem? HY.out)
      obtain ⟨r1, kb', ko', cc', r2, r3, r4⟩ := hfr
      have hfs : Fr (fun x => x = b) w1 (w1.setCell ⟨b, 4, none⟩ (.bool false)) := (Fr.refl (fun x => x = b) w1).setCell (p := ⟨b, 4, none⟩) (.inr rfl) _
      have hm' : FrmAt RP RQ (w1.setCell ⟨b, 4, none⟩ (.bool false)) b { m with used := false } := ⟨r1, kb', ko', cc', r2, r3.set_ 4 _, r4.fr hfs (fun a ha e => by injection ha with ha; subst ha; exact HP1.out.ap b r1 (e ▸ r2))⟩
      go_roundw
      case rel => exact ⟨gs.set k (b, { m with used := false }), (k : Int) + 1, ((HP1.out.setF (m' := { m with used := false }) HY.out hfs rfl hm').hand_ ((k : Int) + 1) (by omega) (by omega)).new ((Fr.refl _ _).drew), HSu.out.set HY.out false, ((HF1.out.setCell (p := ⟨b, 4, none⟩) (.inr r1) _).setCell (p := ⟨p, 5, none⟩) (.inr HP1.out.rp) _).drew⟩
      obtain ⟨z, hz, hz1, _, _⟩ := HSu.out.2 k _ HY.out
      refine sum_lt fs _ _ (fun y hy => ?_) (List.mem_of_getElem? hz) ?_
      · by_cases e : y.1 = b
        · have : (((w1.setCell ⟨b, 4, none⟩ (.bool false)).setCell ⟨p, 5, none⟩ (.int .i64 ((k : Int) + 1))).drew).cell? ⟨y.1, 4, none⟩ = some (.bool false) := by
            rw [e]
            have hb := (((r3.set_ 4 (.bool false)).far (p := ⟨p, 5, none⟩) (fun e => Blk.ne_ HP1.out.blk r3 (by decide) e.symm) (.int .i64 ((k : Int) + 1))).drew)
            exact hb.cell 4
          rw [this]; exact Nat.zero_le _
        · rw [← HFc.out y hy]
          obtain ⟨i, hi⟩ := List.mem_iff_getElem?.1 hy
          have hil := (List.getElem?_eq_some_iff.1 hi).1
          obtain ⟨y', hg⟩ : ∃ y', gs[i]? = some y' := ⟨_, List.getElem?_eq_getElem (by rw [HSu.out.1]; exact hil)⟩
          obtain ⟨z', j1, j2, _⟩ := HSu.out.2 i _ hg
          rw [hi] at j1
          injection j1 with j1
          subst j1
          obtain ⟨cs, hcs⟩ := (HP1.out.frm _ (List.mem_of_getElem? hg)).blk
          rw [← j2] at hcs
          have hb := ((hcs.far (p := ⟨b, 4, none⟩) e (.bool false)).far (p := ⟨p, 5, none⟩) (fun e => Blk.ne_ HP1.out.blk hcs (by decide) e.symm) (.int .i64 ((k : Int) + 1))).drew
          rw [hb.cell, hcs.cell]; exact Nat.le_refl _
      · have hz1 : z.1 = b := hz1
        have h1 : (((w1.setCell ⟨b, 4, none⟩ (.bool false)).setCell ⟨p, 5, none⟩ (.int .i64 ((k : Int) + 1))).drew).cell? ⟨z.1, 4, none⟩ = some (.bool false) := by
          rw [hz1]
          have hb := (((r3.set_ 4 (.bool false)).far (p := ⟨p, 5, none⟩) (fun e => Blk.ne_ HP1.out.blk r3 (by decide) e.symm) (.int .i64 ((k : Int) + 1))).drew)
          exact hb.cell 4
        have h2 : wr.cell? ⟨z.1, 4, none⟩ = some (.bool true) := by
          rw [← HFc.out z (List.mem_of_getElem? hz), hz1]; exact fb4
        rw [h1, h2]; exact Nat.lt_succ_self 0
end
end Go.Proofs.YtccmmnacejdeoaaGreatDoor

/-
  write: dirty pages are written, behind their records.
-/
namespace Go.Proofs.YtccmmnacejdeoaaGreatDoor
set_option linter.unusedSimpArgs false
set_option linter.unusedVariables false
open Go.RowKit Go.Maps

/-- Pointers to frames in a slice. -/
def PtrsIn (Bad : Nat → Prop) (w : World) (A : Option Addr) (ys : List (Nat × Frm)) : Prop := 0 < ys.length → ∃ g, A = some ⟨g, 0, none⟩ ∧ ¬ Bad g ∧ ∀ (j : Nat) y, ys[j]? = some y → w.cell? ⟨g, j, none⟩ = some (.pointer (some ⟨y.1, 0, none⟩))
theorem PtrsIn.fr {Bad F : Nat → Prop} {w w' : World} {A : Option Addr} {ys : List (Nat × Frm)} (h : PtrsIn Bad w A ys) (hf : Fr F w w') (hF : ∀ b, b < w.heap.size → F b → Bad b) : PtrsIn Bad w' A ys := fun h0 => by
  obtain ⟨g, e, hg, hc⟩ := h h0
  refine ⟨g, e, hg, fun j y hy => ?_⟩
  have hlt := cell_lt (hc j y hy)
  exact (hf.cell (p := ⟨g, j, none⟩) hlt (fun e => hg (hF g hlt e))).trans (hc j y hy)
theorem len_ptrs (w : World) (A : Option Addr) (n c : Nat) : (Builtin.len_ #[78] 3 #[Value.slice A n c]).run Tryz.prog w = .ok (.int .i64 n) w := by go_simp
/-- What holds while pages are gathered. -/
structure WSt (RP RQ : Nat → Prop) (w0 wr : World) (p f l d pages : Nat) (frames hand : Int) (B : Nat) (rv : Value) (fs : List (Nat × Frm)) (cur : Nat → Option PgV) (L0 L : LS) (S : DS) (T : Nat) (lot : List PgV) (RL RD0 RD : Nat → Prop) (N : Nat) (A : Option Addr) (ys : List (Nat × Frm)) (v : Value) (xs : List (PgV × Value)) : Prop where
  pool : PoolAt RP RQ wr p f l frames hand B rv fs
  und : Und wr f l d pages cur L S T lot RL RD N
  same : LSame L0 L
  sub : ∀ b, RD b → RD0 b ∨ w0.heap.size ≤ b
  ap : ∀ b, RP b ∨ RQ b → ¬ RL b ∧ ¬ RD b ∧ b ≠ f
  ptr : PtrsIn (fun b => RP b ∨ RL b ∨ RD0 b ∨ b = f ∨ w0.heap.size ≤ b) wr A ys
  row : wr.ownsRow w0.heap.size 40 3 v xs.length (pgCells xs)
  rap : ∀ g, v.ownBlock = some g → ¬ RD g
  cells : ∀ x ∈ xs, ∃ kb ko c, RQ kb ∧ x.2 = .slice (some ⟨kb, ko, none⟩) 480 c ∧ Bsl wr (some ⟨kb, ko, none⟩) c x.1.d
  fr : Fr (fun b => RL b ∨ RD0 b) w0 wr
  lt0 : ∀ b, (RP b ∨ RQ b ∨ RL b ∨ b = f) → b < w0.heap.size
section
variable {RP RQ : Nat → Prop} {w0 wr w' : World} {p f l d pages : Nat} {frames hand : Int} {B : Nat} {rv : Value} {fs : List (Nat × Frm)} {cur : Nat → Option PgV} {L0 L : LS} {S : DS} {T : Nat} {lot : List PgV} {RL RD0 RD : Nat → Prop} {N : Nat} {A : Option Addr} {ys : List (Nat × Frm)} {v : Value} {xs : List (PgV × Value)}
theorem WSt.new (h : WSt RP RQ w0 wr p f l d pages frames hand B rv fs cur L0 L S T lot RL RD0 RD N A ys v xs) (hf : Fr Nob wr w') : WSt RP RQ w0 w' p f l d pages frames hand B rv fs cur L0 L S T lot RL RD0 RD N A ys v xs :=
  { h with
    pool := h.pool.new hf
    und := h.und.new hf
    ptr := h.ptr.fr hf (fun _ _ h => h.elim)
    row := own_fr h.row hf (fun _ _ h => h)
    cells := fun x hx => by
      obtain ⟨kb, ko, c, h1, h2, h3⟩ := h.cells x hx
      exact ⟨kb, ko, c, h1, h2, h3.new hf⟩
    fr := h.fr.trans (hf.mono (fun _ _ h => h.elim)) }
/-- A page more. -/
theorem WSt.push (h : WSt RP RQ w0 wr p f l d pages frames hand B rv fs cur L0 L S T lot RL RD0 RD N A ys v xs) {v7 : Value} {y : Nat × Frm} {kb ko c : Nat} (hq : RQ kb) (hb : Bsl wr (some ⟨kb, ko, none⟩) c y.2.x.d)
    (hown : w'.ownsRow w0.heap.size 40 3 v7 (xs.length + 1) (pgCells xs ++ [.int .i64 y.2.x.no, .int .u64 y.2.x.lsn, .slice (some ⟨kb, ko, none⟩) 480 c])) (hg : wr.grownBy w' v.ownBlock) (hat : v7.ownBlock = v.ownBlock ∨ v7.ownBlock = some wr.heap.size) :
    WSt RP RQ w0 w' p f l d pages frames hand B rv fs cur L0 L S T lot RL RD0 RD N A ys v7 (xs ++ [(y.2.x, .slice (some ⟨kb, ko, none⟩) 480 c)]) := by
  have f7 : Fr (fun b => some b = v.ownBlock) wr w' := Fr.grown (Fr.refl _ _) hg (fun r hr => .inr hr.symm)
  have hlt := fun g hg => h.row.lt g hg
  have hz := h.fr.size
  have hn : ∀ b, b < w0.heap.size → ¬ some b = v.ownBlock := fun b hb e => by have := hlt b e.symm; omega
  exact { h with
    pool := h.pool.fr f7 (fun b hb => hn b (h.lt0 b (.inl hb))) (fun b hb => hn b (h.lt0 b (.inr (.inl hb))))
    und := h.und.fr f7 (fun b hb => hn b (h.lt0 b (.inr (.inr (.inl hb))))) (fun b hb e => h.rap b e.symm hb) (hn f (h.lt0 f (.inr (.inr (.inr rfl)))))
    ptr := h.ptr.fr f7 (fun b _ e => .inr (.inr (.inr (.inr (hlt b e.symm).1))))
    row := by rw [List.length_append, List.length_singleton, pgCells_snoc]; exact hown
    rap := fun g hg hd => by
      rcases hat with e | e
      · exact h.rap g (by rw [← e]; exact hg) hd
      · rw [e] at hg
        injection hg with hg
        have := h.und.disk.lt hd
        omega
    cells := fun x hx => by
      have hkeep : ∀ kb ko c (dd : List UInt8), RQ kb → Bsl wr (some ⟨kb, ko, none⟩) c dd → Bsl w' (some ⟨kb, ko, none⟩) c dd := fun kb ko c dd hq hb => hb.fr f7 (fun a ha => by injection ha with ha; subst ha; exact hn kb (h.lt0 kb (.inr (.inl hq))))
      rcases List.mem_append.1 hx with hx | hx
      · obtain ⟨kb, ko, c, h1, h2, h3⟩ := h.cells x hx
        exact ⟨kb, ko, c, h1, h2, hkeep _ _ _ _ h1 h3⟩
      · rw [List.mem_singleton] at hx
        subst hx
        exact ⟨kb, ko, c, hq, rfl, hkeep _ _ _ _ hq hb⟩
    fr := h.fr.step f7 (fun i hi e => absurd e (hn i hi)) }
/-- The log is flushed in between. -/
theorem WSt.flushed (h : WSt RP RQ w0 wr p f l d pages frames hand B rv fs cur L0 L S T lot RL RD0 RD N A ys v xs) :
    Calls Tryz.prog 50 #[.pointer (some ⟨l, 0, none⟩)] wr fun e w' => e = .returned (.int .i64 0) ∧ ∃ L' S' RD', WSt RP RQ w0 w' p f l d pages frames hand B rv fs cur L0 L' S' T lot RL RD0 RD' N A ys v xs := by
  refine h.und.flush.mono ?_
  rintro e w' ⟨rfl, L', S', RD', hu, hs, hsub, hf⟩
  have hz := h.fr.size
  have hrow : ∀ g, v.ownBlock = some g → ¬ (RL g ∨ RD g) := fun g hg e => by
    rcases e with e | e
    · have := h.lt0 g (.inr (.inr (.inl e))); have := (h.row.lt g hg).1; omega
    · exact h.rap g hg e
  refine ⟨rfl, L', S', RD', ?_⟩
  exact {
    pool := h.pool.fr hf (fun b hb e => by
      rcases e with e | e
      · exact (h.ap b (.inl hb)).1 e
      · exact (h.ap b (.inl hb)).2.1 e) (fun b hb e => by
      rcases e with e | e
      · exact (h.ap b (.inr hb)).1 e
      · exact (h.ap b (.inr hb)).2.1 e)
    und := hu
    same := h.same.trans hs
    sub := fun b hb => by
      rcases hsub b hb with e | e
      · exact h.sub b e
      · exact .inr (by omega)
    ap := fun b hb => ⟨(h.ap b hb).1, fun e => by
      rcases hsub b e with e | e
      · exact (h.ap b hb).2.1 e
      · have := h.lt0 b (hb.elim .inl (fun h => .inr (.inl h))); omega, (h.ap b hb).2.2⟩
    ptr := h.ptr.fr hf (fun b _ e => by
      rcases e with e | e
      · exact .inr (.inl e)
      · rcases h.sub b e with e | e
        · exact .inr (.inr (.inl e))
        · exact .inr (.inr (.inr (.inr e))))
    row := own_fr h.row hf hrow
    rap := fun g hg e => by
      rcases hsub g e with e | e
      · exact h.rap g hg e
      · have := own_lt h.row hg; omega
    cells := fun x hx => by
      obtain ⟨kb, ko, c, h1, h2, h3⟩ := h.cells x hx
      exact ⟨kb, ko, c, h1, h2, h3.fr hf (fun a ha e => by
        injection ha with ha; subst ha
        rcases e with e | e
        · exact (h.ap kb (.inr h1)).1 e
        · exact (h.ap kb (.inr h1)).2.1 e)⟩
    fr := h.fr.step hf (fun i hi e => by
      rcases e with e | e
      · exact .inl e
      · rcases h.sub i e with e | e
        · exact .inr e
        · omega)
    lt0 := h.lt0 }
/-- The row, as the file takes it. -/
theorem WSt.pgs (h : WSt RP RQ w0 wr p f l d pages frames hand B rv fs cur L0 L S T lot RL RD0 RD N A ys v xs) : ∃ A' c, v = .slice A' xs.length c ∧ PgsIn (fun b => RD b ∨ b = f) wr A' xs := by
  by_cases h0 : 0 < xs.length
  · obtain ⟨g, cap, rfl, hgb, hgl⟩ := h.row.form h0
    have hgb : w0.heap.size ≤ g := hgb
    refine ⟨some ⟨g, 0, none⟩, cap, rfl, fun _ => ⟨g, rfl, fun e => ?_, fun j x hx => ?_⟩⟩
    · rcases e with e | e
      · exact h.rap g rfl e
      · have := h.lt0 g (.inr (.inr (.inr e))); omega
    · obtain ⟨a1, a2, a3⟩ := pgCells_at xs j x hx
      have hc := h.row.cells (g := g) rfl
      have k1 := hc _ _ a1
      have k2 := hc _ _ a2
      have k3 := hc _ _ a3
      rw [addr_add0] at k1 k2 k3
      obtain ⟨kb, ko, c, h1, h2, h3⟩ := h.cells x (List.mem_of_getElem? hx)
      exact ⟨k1, k2, k3, kb, ko, c, h2, h3, fun e => by
        rcases e with e | e
        · exact (h.ap kb (.inr h1)).2.1 e
        · exact (h.ap kb (.inr h1)).2.2 e⟩
  · obtain rfl : xs = [] := List.eq_nil_of_length_eq_zero (by omega)
    rcases h.row.2 with ⟨rfl, _⟩ | ⟨g, cap, _, rfl, _⟩
    · exact ⟨none, 0, rfl, fun h => absurd h (by simp)⟩
    · exact ⟨some ⟨g, 0, none⟩, cap, rfl, fun h => absurd h (by simp)⟩
end

/-! ### frames that were written -/
def cleanF (ns : List Nat) (fs : List (Nat × Frm)) : List (Nat × Frm) := fs.map fun y => if y.2.x.no ∈ ns then (y.1, { y.2 with dirty := false }) else y
theorem cleanF_nil (fs : List (Nat × Frm)) : cleanF [] fs = fs := by simp [cleanF]
theorem cleanF_get {ns : List Nat} {fs : List (Nat × Frm)} {i : Nat} {y : Nat × Frm} (h : fs[i]? = some y) : (cleanF ns fs)[i]? = some (if y.2.x.no ∈ ns then (y.1, { y.2 with dirty := false }) else y) := by
  unfold cleanF
  rw [List.getElem?_map, h]; rfl
theorem cleanF_mem {ns : List Nat} {fs : List (Nat × Frm)} {y : Nat × Frm} (h : y ∈ cleanF ns fs) : ∃ z ∈ fs, z.1 = y.1 ∧ z.2.x = y.2.x ∧ z.2.used = y.2.used ∧ ((y.2.x.no ∈ ns ∧ y.2.dirty = false) ∨ (y.2.x.no ∉ ns ∧ y = z)) := by
  unfold cleanF at h
  obtain ⟨z, hz, rfl⟩ := List.mem_map.1 h
  refine ⟨z, hz, ?_⟩
  by_cases e : z.2.x.no ∈ ns
  · rw [if_pos e]; exact ⟨rfl, rfl, rfl, .inl ⟨e, rfl⟩⟩
  · rw [if_neg e]; exact ⟨rfl, rfl, rfl, .inr ⟨e, rfl⟩⟩
theorem cleanF_step {ns : List Nat} {fs : List (Nat × Frm)} {i : Nat} {y : Nat × Frm} (h : fs[i]? = some y) (hap : ∀ (j : Nat) z, fs[j]? = some z → z.2.x.no = y.2.x.no → j = i) {m : Nat × Frm} (hm : (cleanF ns fs)[i]? = some m) :
    (cleanF ns fs).set i (m.1, { m.2 with dirty := false }) = cleanF (ns ++ [y.2.x.no]) fs := by
  refine List.ext_getElem? (fun j => ?_)
  rw [List.getElem?_set]
  by_cases e : i = j
  · subst e
    rw [if_pos rfl, if_pos (List.getElem?_eq_some_iff.1 hm).1, cleanF_get h, if_pos (List.mem_append_right _ (List.mem_singleton.2 rfl))]
    rw [cleanF_get h] at hm
    injection hm with hm
    subst hm
    split <;> rfl
  · rw [if_neg e]
    cases hj : fs[j]? with
    | none =>
      have hjl : fs.length ≤ j := List.getElem?_eq_none_iff.1 hj
      rw [List.getElem?_eq_none (by simp [cleanF]; exact hjl), List.getElem?_eq_none (by simp [cleanF]; exact hjl)]
    | some z =>
      rw [cleanF_get hj, cleanF_get hj]
      have hne : z.2.x.no ≠ y.2.x.no := fun e2 => e (hap j z hj e2).symm
      by_cases e2 : z.2.x.no ∈ ns
      · rw [if_pos e2, if_pos (List.mem_append_left _ e2)]
      · rw [if_neg e2, if_neg (fun e3 => by
          rcases List.mem_append.1 e3 with e3 | e3
          · exact e2 e3
          · exact hne (List.mem_singleton.1 e3))]
theorem Views.cleaned {fs : List (Nat × Frm)} {cur cur' : Nat → Option PgV} {pages : Nat} {V : Nat → PgV} (h : Views fs cur pages V) (ns : List Nat) (h1 : ∀ no, no ∉ ns → cur' no = cur no) (h2 : ∀ y ∈ fs, y.2.x.no ∈ ns → cur' y.2.x.no = some y.2.x) (h3 : ∀ n ∈ ns, ∃ y ∈ fs, y.2.x.no = n) : Views (cleanF ns fs) cur' pages V := by
  refine ⟨fun y hy => ?_, fun y hy => ?_, fun no hno hc => ?_⟩
  · obtain ⟨z, hz, _, e, _⟩ := cleanF_mem hy; rw [← e]; exact h.ok z hz
  · obtain ⟨z, hz, _, e, _⟩ := cleanF_mem hy; rw [← e]; exact h.held z hz
  · by_cases e : no ∈ ns
    · obtain ⟨y, hy, hyn⟩ := h3 no e
      have := h2 y hy (by rw [hyn]; exact e)
      rw [hyn] at this
      rw [this]
      have hv := h.held y hy
      rw [hyn] at hv
      exact hv
    · rw [h1 no e]
      refine h.file no hno (fun y hy he => ?_)
      have hy' : y ∈ cleanF ns fs := by
        unfold cleanF
        refine List.mem_map.2 ⟨y, hy, ?_⟩
        rw [if_neg (by rw [he]; exact e)]
      exact hc y hy' he
theorem curW_not (cur : Nat → Option PgV) (l : List PgV) (no : Nat) (h : ∀ x ∈ l, x.no ≠ no) : ∀ k, curW cur l k no = cur no
  | 0 => rfl
  | k + 1 => by
    unfold curW
    cases hx : l[k]? with
    | none => exact curW_not cur l no h k
    | some x =>
      dsimp only
      rw [if_neg (fun e => h x (List.mem_of_getElem? hx) e.symm)]
      exact curW_not cur l no h k
end Go.Proofs.YtccmmnacejdeoaaGreatDoor
