/-
  TxnBounds, in one text.
-/
import Derived.Test.YtfapklpcgcgahaaGreatDoorMg36
import Derived.Deep.DeepCutAuto
/-
  TxnBounds returns true.
-/
namespace Go.Proofs.YtfapklpcgcgahaaGreatDoor
set_option linter.unusedSimpArgs false
set_option linter.unusedVariables false
open Go.RowKit Go.Maps

/-- What may be a store on a disk of n sectors. -/
def GoodT (pages log frames : Int) (n : Nat) : Prop := 1 ≤ pages ∧ pages ≤ 4096 ∧ 64 ≤ log ∧ log ≤ 16384 ∧ 1 ≤ frames ∧ frames ≤ 64 ∧ 8 * pages + 80 + log ≤ (n : Int)
instance (pages log frames : Int) (n : Nat) : Decidable (GoodT pages log frames n) := by unfold GoodT; infer_instance
theorem not_good {pages log frames : Int} {n : Nat} (h : ¬ GoodT pages log frames n) : ¬ 1 ≤ pages ∨ (1 ≤ pages ∧ ¬ pages ≤ 4096) ∨ (1 ≤ pages ∧ pages ≤ 4096 ∧ ¬ 64 ≤ log) ∨ (1 ≤ pages ∧ pages ≤ 4096 ∧ 64 ≤ log ∧ ¬ log ≤ 16384) ∨ (1 ≤ pages ∧ pages ≤ 4096 ∧ 64 ≤ log ∧ log ≤ 16384 ∧ ¬ 1 ≤ frames) ∨ (1 ≤ pages ∧ pages ≤ 4096 ∧ 64 ≤ log ∧ log ≤ 16384 ∧ 1 ≤ frames ∧ ¬ frames ≤ 64) ∨ (1 ≤ pages ∧ pages ≤ 4096 ∧ 64 ≤ log ∧ log ≤ 16384 ∧ 1 ≤ frames ∧ frames ≤ 64 ∧ ¬ 8 * pages + 80 + log ≤ (n : Int)) := by
  unfold GoodT at h
  omega
set_option maxHeartbeats 6400000 in
set_option maxRecDepth 100000 in
theorem OpenT_bad {R : Nat → Prop} {w : World} {d n : Nat} {pages log frames : Int} {S : DS} (hd : DiskOk R w d S) (hn : S.now.length = n) (h : ¬ GoodT pages log frames n) (hn2 : n ≤ 65536) :
    Calls Tryz.prog 11 #[.pointer (some ⟨d, 0, none⟩), .int .i64 pages, .int .i64 log, .int .i64 frames] w fun e w' => e = .returned (.tuple #[.pointer none, .int .i64 1]) ∧ w = w' := by
  have hsec := Sectors_any hd
  rw [hn] at hsec
  have HSec := Lib.hid hsec
  clear hd hn hsec
  rcases not_good h with h1 | ⟨h1, h2⟩ | ⟨h1, h2, h3⟩ | ⟨h1, h2, h3, h4⟩ | ⟨h1, h2, h3, h4, h5⟩ | ⟨h1, h2, h3, h4, h5, h6⟩ | ⟨h1, h2, h3, h4, h5, h6, h7⟩
  · clear h
    go_enter Tryz.func11, Tryz.ntmps11
    go_wp2
    go_ret2
    exact ⟨rfl, rfl⟩
  · clear h
    go_enter Tryz.func11, Tryz.ntmps11
    go_wp2
    go_ret2
    exact ⟨rfl, rfl⟩
  · clear h
    go_enter Tryz.func11, Tryz.ntmps11
    go_wp2
    go_ret2
    exact ⟨rfl, rfl⟩
  · clear h
    go_enter Tryz.func11, Tryz.ntmps11
    go_wp2
    go_ret2
    exact ⟨rfl, rfl⟩
  · clear h
    go_enter Tryz.func11, Tryz.ntmps11
    go_wp2
    go_ret2
    exact ⟨rfl, rfl⟩
  · clear h
    go_enter Tryz.func11, Tryz.ntmps11
    go_wp2
    go_ret2
    exact ⟨rfl, rfl⟩
  · clear h
    obtain ⟨pn, rfl⟩ : ∃ x : Nat, pages = x := ⟨pages.toNat, by omega⟩
    obtain ⟨ln, rfl⟩ : ∃ x : Nat, log = x := ⟨log.toNat, by omega⟩
    have HNt := Lib.hid (NeedT_any pn ln w (by omega) (by omega) (by omega))
    obtain ⟨nd, hnd⟩ : ∃ x : Nat, 8 * pn + 80 + ln = x := ⟨_, rfl⟩
    rw [hnd] at HNt
    have hlt : (n : Int) < (nd : Int) := by omega
    clear h7 hnd
    go_enter Tryz.func11, Tryz.ntmps11
    go_wp2_with fail
    refine HSec.out.mono ?_
    rintro e w1 ⟨rfl, rfl⟩
    go_wp2_with fail
    refine HNt.out.mono ?_
    rintro e w1 ⟨rfl, rfl⟩
    go_wp2
    go_ret2
    exact ⟨rfl, rfl⟩
theorem i64_and63 (n : Int) : bits .and .i64 n 63 = n % 64 := by
  have := i64_mask n 63 6 (by decide) (by decide) (by decide)
  simpa using this
set_option maxHeartbeats 12800000 in
set_option maxRecDepth 100000 in
theorem TxnBounds_row (pages log frames : Int) (w : World) : Calls Tryz.prog 3 #[.int .i64 pages, .int .i64 log, .int .i64 frames] w fun e w' => e = .returned (.bool true) ∧ Fr Nob w w' := by
  obtain ⟨p, hp, hp1, hp2⟩ : ∃ p : Nat, bits .and .i64 pages 15 = (p : Int) ∧ 0 ≤ p ∧ p ≤ 15 := ⟨(pages % 16).toNat, by rw [i64_and15]; omega, by omega, by omega⟩
  obtain ⟨l, hl, hl2⟩ : ∃ l : Nat, bits .and .i64 log 63 = (l : Int) ∧ l ≤ 63 := ⟨(log % 64).toNat, by rw [i64_and63]; omega, by omega⟩
  have HAw : Hid (∀ W, Calls Tryz.prog 13 #[] W fun e w' => e = .returned (.bool true) ∧ Fr Nob W w') := Awake6_any
  have HNw : Hid (∀ n W, 8 ≤ n → n ≤ 65536 → Calls Tryz.prog 10 #[.int .i64 ((n : Nat) : Int)] W fun e w' => ∃ p, e = .returned (.tuple #[.pointer (some ⟨p, 0, none⟩), .int .i64 0]) ∧ W.heap.size ≤ p ∧ DiskOk (fun b => W.heap.size ≤ b ∧ b < w'.heap.size) w' p (DS.new n) ∧ Fr Nob W w') := New_good
  have HN1 : Hid (Calls Tryz.prog 10 #[.int .i64 1000] w fun e w' => ∃ p, e = .returned (.tuple #[.pointer (some ⟨p, 0, none⟩), .int .i64 0]) ∧ w.heap.size ≤ p ∧ DiskOk (fun b => w.heap.size ≤ b ∧ b < w'.heap.size) w' p (DS.new 1000) ∧ Fr Nob w w') := New_good 1000 w (by omega) (by omega)
  go_enter Tryz.func3, Tryz.ntmps3
  go_wp2_with fail
  refine HN1.out.mono ?_
  rintro e w1 ⟨d, rfl, hd0, hd1, hf1⟩
  have HD1 := Lib.hid hd1
  have HF1 := Lib.hid hf1
  have hop : Calls Tryz.prog 11 #[.pointer (some ⟨d, 0, none⟩), .int .i64 pages, .int .i64 log, .int .i64 frames] w1 fun e w' => ∃ q c, e = .returned (.tuple #[.pointer q, .int .i64 c]) ∧ ((GoodT pages log frames 1000 ∧ c = 0 ∧ ∃ k, q = some k) ∨ (¬ GoodT pages log frames 1000 ∧ c = 1 ∧ q = none)) ∧ Fr (fun b => w.heap.size ≤ b ∧ b < w1.heap.size) w1 w' := by
    by_cases hg : GoodT pages log frames 1000
    · have hg' := hg
      unfold GoodT at hg'
      obtain ⟨pn, rfl⟩ : ∃ x : Nat, pages = x := ⟨pages.toNat, by omega⟩
      obtain ⟨ln, rfl⟩ : ∃ x : Nat, log = x := ⟨log.toNat, by omega⟩
      refine (OpenT_good (pages := pn) (log := ln) (frames := frames) hd1 (by omega) (by omega) (by omega) (by omega) (by omega) (by omega) (by omega) (by omega)).mono ?_
      rintro e w' ⟨s, rfl, _, _, _, _, _, _, _, _, _, hf⟩
      exact ⟨_, _, rfl, .inl ⟨hg, rfl, _, rfl⟩, hf⟩
    · refine (OpenT_bad hd1 (DS.new_facts 1000).1 hg (by omega)).mono ?_
      rintro e w' ⟨rfl, rfl⟩
      exact ⟨_, _, rfl, .inr ⟨hg, rfl, rfl⟩, Fr.refl _ _⟩
  have HOp := Lib.hid hop
  clear hd1 hf1 hop HN1
  go_wp2_with fail
  refine HOp.out.mono ?_
  rintro e w2 ⟨q, c, rfl, hq, hf2⟩
  have HQ := Lib.hid hq
  have HF2 : Hid (Fr Nob w w2) := HF1.out.step hf2 (fun i hi e => by
    have e : w.heap.size ≤ i ∧ i < w1.heap.size := e
    omega)
  clear hq hf2 HOp HD1 HF1
  go_upto_region 5 with fail
  go_cut [11] (fun s11 wx => wx = w2 ∧ ∃ bg : Bool, s11 = .bool bg ∧ Hid (bg = decide (GoodT pages log frames 1000)))
  case first =>
    clear HQ
    by_cases hg : GoodT pages log frames 1000
    · have hg' := hg
      have HG := Lib.hid hg
      unfold GoodT at hg'
      obtain ⟨h1, h2, h3, h4, h5, h6, h7⟩ := hg'
      have h7 : 8 * pages + 80 + log ≤ 1000 := h7
      clear hg
      go_wp2_with fail
      go_meet
      exact ⟨rfl, _, rfl, by show _ = _; symm; apply decide_eq_true; exact HG.out⟩
    · have HG := Lib.hid hg
      rcases not_good hg with h1 | ⟨h1, h2⟩ | ⟨h1, h2, h3⟩ | ⟨h1, h2, h3, h4⟩ | ⟨h1, h2, h3, h4, h5⟩ | ⟨h1, h2, h3, h4, h5, h6⟩ | ⟨h1, h2, h3, h4, h5, h6, h7⟩
      all_goals
        clear hg
        try (have h7 : ¬ 8 * pages + 80 + log ≤ 1000 := h7)
        go_wp2_with fail
        go_meet
        exact ⟨rfl, _, rfl, by show _ = _; symm; apply decide_eq_false; exact HG.out⟩
  case rest =>
    obtain ⟨hwc, bg, rfl, HBg⟩ := hcut
    obtain rfl : w2 = _ := hwc.symm
    obtain ⟨pp, hpp⟩ : ∃ x, p + 1 = x := ⟨_, rfl⟩
    have e1 : IntKind.i64.wrap ((p : Int) + 1) = (pp : Int) := by rw [IntKind.wrap_i64]; omega
    have e1' : (p : Int) + 1 = (pp : Int) := by omega
    obtain ⟨ll, hll⟩ : ∃ x, l + 64 = x := ⟨_, rfl⟩
    have e2 : IntKind.i64.wrap ((l : Int) + 64) = (ll : Int) := by rw [IntKind.wrap_i64]; omega
    have e2' : (l : Int) + 64 = (ll : Int) := by omega
    obtain ⟨nd, hnd⟩ : ∃ x, 8 * pp + 80 + ll = x := ⟨_, rfl⟩
    have HNd : Hid (∀ W, Calls Tryz.prog 12 #[.int .i64 pp, .int .i64 ll] W fun e w' => e = .returned (.int .i64 nd) ∧ W = w') := fun W => by rw [← hnd]; exact NeedT_any pp ll W (by omega) (by omega) (by omega)
    obtain ⟨n1, hn1⟩ : ∃ x, nd - 1 = x := ⟨_, rfl⟩
    have e3 : IntKind.i64.wrap ((nd : Int) - 1) = (n1 : Int) := by rw [IntKind.wrap_i64]; omega
    have e3' : (nd : Int) - 1 = (n1 : Int) := by omega
    have hpl : 1 ≤ pp ∧ pp ≤ 16 ∧ 64 ≤ ll ∧ ll ≤ 127 := by omega
    obtain ⟨g1, g2, g3, g4⟩ := hpl
    have e4 : IntKind.i64.wrap (8 * (pp : Int)) = 8 * (pp : Int) := by rw [IntKind.wrap_i64]; omega
    have e5 : IntKind.i64.wrap (8 * (pp : Int) + 80) = 8 * (pp : Int) + 80 := by rw [IntKind.wrap_i64]; omega
    have e6 : IntKind.i64.wrap (8 * (pp : Int) + 80 + (ll : Int)) = (nd : Int) := by rw [IntKind.wrap_i64]; omega
    have e6' : 8 * (pp : Int) + 80 + (ll : Int) = (nd : Int) := by omega
    have HE : Hid (n1 + 1 = nd ∧ 8 * pp + 80 + ll = nd) := ⟨by omega, hnd⟩
    have hnb : 8 ≤ nd ∧ nd ≤ 1000 ∧ 8 ≤ n1 ∧ n1 ≤ 1000 := by omega
    obtain ⟨b1, b2, b3, b4⟩ := hnb
    clear hpp hll hnd hn1
    have hq := HQ.out
    have hbg : (bg = true ∧ c = 0 ∧ ∃ k, q = some k) ∨ (bg = false ∧ c = 1 ∧ q = none) := by
      rcases hq with ⟨h1, h2, h3⟩ | ⟨h1, h2, h3⟩
      · exact .inl ⟨by rw [HBg.out]; exact decide_eq_true h1, h2, h3⟩
      · exact .inr ⟨by rw [HBg.out]; exact decide_eq_false h1, h2, h3⟩
    have HFin : Hid (∀ W, Fr Nob w W → True) := fun _ _ => trivial
    clear hq HQ HBg
    go_upto_region 6 with fail
    go_cut [88] (fun s88 wx => wx = w2 ∧ s88 = .bool false)
    case first =>
      rcases hbg with ⟨rfl, rfl, k, rfl⟩ | ⟨rfl, rfl, rfl⟩
      · go_wp2_with fail
        go_meet
        exact ⟨rfl, rfl⟩
      · go_wp2_with fail
        go_meet
        exact ⟨rfl, rfl⟩
    case rest =>
      obtain ⟨hwc, rfl⟩ := hcut
      obtain rfl : w2 = _ := hwc.symm
      go_wp2_with fail
      refine (HNd.out _).mono ?_
      rintro e w3 ⟨rfl, rfl⟩
      go_wp2_with fail
      refine (HNw.out nd _ b1 (by omega)).mono ?_
      rintro e w3 ⟨dx, rfl, hx0, hx1, hf3⟩
      have HX1 := Lib.hid hx1
      have HF3 := Lib.hid (HF2.out.trans hf3)
      have hz3 := hf3.size
      clear hx1 hf3
      go_wp2_with fail
      refine (HNd.out _).mono ?_
      rintro e w4 ⟨rfl, rfl⟩
      go_wp2_with fail
      refine (HNw.out n1 _ b3 (by omega)).mono ?_
      rintro e w4 ⟨dy, rfl, hy0, hy1, hf4⟩
      have HY1 := Lib.hid hy1
      have HF4 := Lib.hid (HF3.out.trans hf4)
      have hz4 := hf4.size
      have hx4 := HX1.out.new hf4
      have HOx := Lib.hid (OpenT_good (pages := pp) (log := ll) (frames := 1) hx4 (by omega) (by omega) (by omega) (by omega) (by omega) (by omega) (by have := HE.out; omega) (by omega))
      clear hy1 hf4 hx4
      go_wp2_with fail
      refine HOx.out.mono ?_
      rintro e w5 ⟨s, rfl, _, _, _, _, _, _, _, _, _, hf5⟩
      have hy5 := HY1.out.fr hf5 (fun b hb e => by
        have hb : w3.heap.size ≤ b ∧ b < w4.heap.size := hb
        have e : w2.heap.size ≤ b ∧ b < w3.heap.size := e
        omega)
      have HF5 : Hid (Fr Nob w w5) := HF4.out.step hf5 (fun i hi e => by
        have e : w2.heap.size ≤ i ∧ i < w3.heap.size := e
        have := HF2.out.size
        omega)
      have HOy := Lib.hid (OpenT_bad (pages := pp) (log := ll) (frames := 1) hy5 (DS.new_facts n1).1 (by
        have := HE.out
        unfold GoodT
        omega) (by omega))
      clear hf5 hy5 HOx
      go_wp2_with fail
      refine HOy.out.mono ?_
      rintro e w6 ⟨rfl, rfl⟩
      go_wp2_with fail
      refine (HNd.out _).mono ?_
      rintro e w6 ⟨rfl, rfl⟩
      go_wp2_with fail
      refine (HAw.out _).mono ?_
      rintro e w7 ⟨rfl, hf7⟩
      go_wp2
      go_ret
      exact ⟨rfl, HF5.out.trans hf7⟩
end Go.Proofs.YtfapklpcgcgahaaGreatDoor
