/-
  Open: a file on a disk that lives through it, over any sectors that are.
-/
import Derived.Test.YtilclfeaolhoeaaDoorPgLeft
namespace Go.Proofs.YtilclfeaolhoeaaDoor
set_option linter.unusedSimpArgs false
set_option linter.unusedVariables false
open Go.RowKit

/-- What Open does to the disk. -/
def openRun (S : DS) (at0 pages : Nat) (h : List UInt8) : DS × Int :=
  if lfRes S.now (at0 + 8 * pages) pages h = [] then (S, 0) else runs S (layOps at0 (lfRes S.now (at0 + 8 * pages) pages h) (lfRes S.now (at0 + 8 * pages) pages h).length ++ [.fl])
theorem lfWh_each {now : List (List UInt8)} {sp pages : Nat} {h : List UInt8} : ∀ k, lfWh now sp pages h k = true → ∀ i, i < k → i < lfN h → pgOk (lfB now sp i) = true ∧ pgTurn (lfB now sp i) = lfT h ∧ (pgX (lfB now sp i)).no < pages
  | 0, _, i, hi, _ => absurd hi (by omega)
  | k + 1, hk, i, hi, hn => by
    unfold lfWh at hk
    by_cases e : i = k
    · subst e
      rw [if_pos hn] at hk
      simp only [Bool.and_eq_true, decide_eq_true_eq] at hk
      exact ⟨hk.1.1.2, hk.1.2, hk.2⟩
    · split at hk
      · simp only [Bool.and_eq_true] at hk
        exact lfWh_each k hk.1.1.1 i (by omega) hn
      · exact lfWh_each k hk i (by omega) hn
theorem lfRes_ok {now : List (List UInt8)} {at0 pages : Nat} {h : List UInt8} (h64 : ∀ (j : Nat) s, now[j]? = some s → s.length = 64) (hat : at0 + 8 * pages + 80 ≤ now.length) (hp : pages ≤ 5000) :
    (lfRes now (at0 + 8 * pages) pages h).length ≤ 8 ∧ ∀ x ∈ lfRes now (at0 + 8 * pages) pages h, x.Ok ∧ x.no < pages := by
  unfold lfRes
  split
  · rename_i hw
    have h8 : lfN h ≤ 8 := by
      have := lfWh_w0 8 hw
      unfold lfW0 at this
      simp only [Bool.and_eq_true, decide_eq_true_eq] at this
      exact this.1
    refine ⟨by unfold lfL; rw [List.length_map, List.length_range]; exact h8, fun x hx => ?_⟩
    unfold lfL at hx
    obtain ⟨i, hi, rfl⟩ := List.mem_map.1 hx
    rw [List.mem_range] at hi
    obtain ⟨_, _, h3⟩ := lfWh_each 8 hw i (by omega) hi
    have hlb : (lfB now (at0 + 8 * pages) i).length = 512 := by unfold lfB; rw [secN_length h64 _ 8 (by omega)]
    exact ⟨⟨by omega, getN_le _ (by rw [List.length_take]; omega), by show ((lfB now (at0 + 8 * pages) i).drop 32).length = 480; rw [List.length_drop, hlb]⟩, h3⟩
  · exact ⟨by simp, fun x hx => by simp at hx⟩

set_option maxHeartbeats 3200000 in
set_option maxRecDepth 100000 in
theorem Open_run {R : Nat → Prop} {w : World} {d : Nat} {S : DS} {hb : List UInt8} (at0 pages : Nat) (hd : DiskOk R w d S) (hl : S.dead = false) (h1 : 1 ≤ pages) (h2 : pages ≤ 4096) (hat : at0 + 8 * pages + 80 ≤ S.now.length) (hh : S.now[at0 + 8 * pages]? = some hb) (hwl : S.waits.length ≤ 900000)
    (hc : (openRun S at0 pages hb).2 = 0) (hdd : (openRun S at0 pages hb).1.dead = false) (hps : PSound (openRun S at0 pages hb).1.now at0 pages) (hat2 : at0 ≤ 60000) :
    Calls Tryd.prog 14 #[.pointer (some ⟨d, 0, none⟩), .int .i64 at0, .int .i64 pages] w fun e w' => ∃ p R', e = .returned (.tuple #[.pointer (some ⟨p, 0, none⟩), .int .i64 0]) ∧ w.heap.size ≤ p ∧ p < w'.heap.size ∧ FileAt w' p d at0 pages (lfTurn S.now (at0 + 8 * pages) 0 hb 8) ∧ DiskOk R' w' d (openRun S at0 pages hb).1 ∧ ¬ R' p ∧ (∀ b, R' b → R b ∨ w.heap.size ≤ b) ∧ FrD R w w' := by
  have HSec := Lib.hid (Sectors_any hd)
  have HNeed := Lib.hid (Need_any pages w (by omega) h1)
  have HD := Lib.hid hd
  have HDead := Lib.hid hl
  have HRes := Lib.hid (lfRes_ok (h := hb) (fun j s hs => hd.len64 (i := j) hs) hat (by omega : pages ≤ 5000))
  have HRlt : Hid (∀ b, R b → b < w.heap.size) := fun b hb => hd.lt hb
  have hsm := hd.small
  obtain ⟨n, hn⟩ : ∃ n, S.now.length = n := ⟨_, rfl⟩
  have HH := Lib.hid hh
  rw [hn] at HSec hat hsm
  have HNl := Lib.hid hn
  have HC := Lib.hid hc
  have HDd := Lib.hid hdd
  have HPs := Lib.hid hps
  obtain ⟨nd, hnd⟩ : ∃ m, 8 * pages + 80 = m := ⟨_, rfl⟩
  rw [hnd] at HNeed
  have u1 : IntKind.i64.wrap ((n : Int) - (nd : Int)) = (n : Int) - (nd : Int) := by rw [IntKind.wrap_i64]; omega
  have t1 : ¬ (pages : Int) < 1 := by omega
  have t2 : ¬ (pages : Int) > 4096 := by omega
  have t3 : ¬ (at0 : Int) < 0 := by omega
  have t4 : ¬ (at0 : Int) > (n : Int) - (nd : Int) := by omega
  have t5 : ¬ (4096 : Int) < (pages : Int) := by omega
  have t6 : ¬ (n : Int) - (nd : Int) < (at0 : Int) := by omega
  clear hd hl hn hh hc hdd hps hnd
  go_enter Tryd.func14, Tryd.ntmps14
  go_wp2_with fail
  refine HSec.out.mono ?_
  rintro e w1 ⟨rfl, rfl⟩
  go_wp2_with fail
  refine HNeed.out.mono ?_
  rintro e w1 ⟨rfl, rfl⟩
  obtain ⟨p, hp⟩ : ∃ p, w.heap.size = p := ⟨_, rfl⟩
  have HP := Lib.hid hp
  have hfa : FileAt (w.alloc (.cells #[.pointer (some ⟨d, 0, none⟩), .int .i64 at0, .int .i64 pages, .int .u64 0] 55)) p d at0 pages 0 := by rw [← hp]; exact Blk.new _ _ _
  have hfw : Fr Nob w (w.alloc (.cells #[.pointer (some ⟨d, 0, none⟩), .int .i64 at0, .int .i64 pages, .int .u64 0] 55)) := (Fr.refl _ w).alloc _
  obtain ⟨wa, hwa⟩ : ∃ W, w.alloc (.cells #[.pointer (some ⟨d, 0, none⟩), .int .i64 at0, .int .i64 pages, .int .u64 0] 55) = W := ⟨_, rfl⟩
  rw [hwa] at hfa hfw
  have hRp : ¬ R p := fun h => by have := HRlt.out p h; omega
  have HLf := Lib.hid (left_any hfa hRp (HD.out.new hfw) HDead.out (by rw [HNl.out]; omega) HH.out (by omega) (by omega))
  have HFw := Lib.hid hfw
  have hpwa : p < wa.heap.size := hfa.lt
  clear hfa hfw
  go_wp2_with fail
  refine HLf.out.mono ?_
  rintro e w2 ⟨A, c, l, rfl, hml, hpg, hf2, hfr2⟩
  clear hp hwa
  have hll : l.length = (lfRes S.now (at0 + 8 * pages) pages hb).length := by rw [← hml, List.length_map]
  have HD2 : Hid (DiskOk R w2 d S) := (HD.out.new HFw.out).fr hfr2 (fun b hb e => hRp (e ▸ hb))
  have HF2 := Lib.hid hf2
  have HFr2 : Hid (Fr Nob w w2) := by
    refine HFw.out.step hfr2 (fun i hi h => ?_)
    have := HP.out; omega
  have HMl := Lib.hid hml
  have hsz2 := hfr2.size
  have hpl2 : p < w2.heap.size := by omega
  have HPg : Hid (PgsIn R w2 A l) := hpg.less (fun b hbl hRb => by have := HRlt.out b hRb; have := HFw.out.size; omega)
  obtain ⟨m, hm⟩ : ∃ m, l.length = m := ⟨_, rfl⟩
  have HM := Lib.hid hm
  rw [hm] at hll ⊢
  clear hml hpg hf2 hfr2 hm HLf
  by_cases h0 : m = 0
  · have HOr : Hid (openRun S at0 pages hb = (S, 0)) := by
      show _ = _
      unfold openRun
      rw [if_pos (List.eq_nil_of_length_eq_zero (by omega))]
    rw [HOr.out] at HPs HDd
    have HSd := Lib.hid (sound_any HF2.out HD2.out HDead.out HPs.out)
    have g1 : ¬ (m : Int) > 0 := by omega
    have g2 : ¬ (0 : Int) < (m : Int) := by omega
    clear hll HC
    subst h0
    go_wp2_with fail
    refine HSd.out.mono ?_
    rintro e w3 ⟨rfl, hf3⟩
    have HF3 := Lib.hid hf3
    clear hf3
    go_wp2
    go_ret2
    rw [HOr.out]
    exact ⟨p, R, rfl, by rw [HP.out]; exact Nat.le_refl _, Nat.lt_of_lt_of_le hpl2 HF3.out.size, HF2.out.fr HF3.out (fun h => h), HD2.out.new HF3.out, hRp, fun b hb => .inl hb, (HFr2.out.trans HF3.out).mono (fun _ _ h => h.elim)⟩
  · have hne : lfRes S.now (at0 + 8 * pages) pages hb ≠ [] := fun h => by rw [h] at hll; exact h0 hll
    have HOr : Hid (openRun S at0 pages hb = runs S (layOps at0 (l.map (·.1)) m ++ [.fl])) := by
      show _ = _
      unfold openRun
      rw [if_neg hne, HMl.out, hll]
    rw [HOr.out] at HPs HDd HC
    have HLy := Lib.hid (lay_run A c l HF2.out hRp HD2.out HPg.out (fun x hx => HRes.out.2 x.1 (by rw [← HMl.out]; exact List.mem_map_of_mem hx)) (by rw [HM.out, hll]; exact HRes.out.1) (by rw [HNl.out]; omega) hat2 (by omega) hwl)
    rw [HM.out] at HLy
    have g1 : (m : Int) > 0 := by omega
    have g2 : (0 : Int) < (m : Int) := by omega
    clear hll hne
    go_wp2_with fail
    refine HLy.out.mono ?_
    rintro e w3 ⟨rfl, hd3, hf3⟩
    rw [HC.out]
    have hEp : ¬ Ext R w2 w3 p := fun h => by rcases h with h | h; exact hRp h; omega
    have HF3 : Hid (FileAt w3 p d at0 pages _) := HF2.out.fr hf3.fr (fun h => hRp h)
    have HSd := Lib.hid (sound_any HF3.out hd3 HDd.out HPs.out)
    have HD3 := Lib.hid hd3
    have HFr3 := Lib.hid hf3
    have hsz3 : w2.heap.size ≤ w3.heap.size := hf3.size
    clear hd3 hf3 HLy
    go_wp2_with fail
    refine HSd.out.mono ?_
    rintro e w4 ⟨rfl, hf4⟩
    have HF4 := Lib.hid hf4
    clear hf4
    go_wp2
    go_ret2
    rw [HOr.out]
    refine ⟨p, Ext R w2 w3, rfl, by rw [HP.out]; exact Nat.le_refl _, Nat.lt_of_lt_of_le (by omega) HF4.out.size, HF3.out.fr HF4.out (fun h => h), HD3.out.new HF4.out, hEp, fun b hb => ?_, ?_⟩
    · rcases hb with hb | hb
      · exact .inl hb
      · exact .inr (by have := HFr2.out.size; omega)
    · have h23 : FrD R w w3 := FrD.step (HFr2.out.mono (F := Nob) (G := Nob) (fun _ _ h => h)) (fun i h => h.elim) HFr3.out (fun i hi h => h)
      exact FrD.step' h23 HF4.out (fun i hi h => h.elim)
end Go.Proofs.YtilclfeaolhoeaaDoor
