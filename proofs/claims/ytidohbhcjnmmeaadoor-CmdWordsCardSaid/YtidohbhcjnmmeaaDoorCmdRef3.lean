/-
  The reference's Parse.
-/
import Derived.Test.YtidohbhcjnmmeaaDoorCmdRef2
import Derived.Test.YtidohbhcjnmmeaaDoorCmd10
namespace Go.Proofs.YtidohbhcjnmmeaaDoor
set_option linter.unusedSimpArgs false
set_option linter.unusedVariables false
open Go.RowKit

/-- The reference's Parse's answer. -/
def RPRes (P : Cm × Int) (w : World) (e : Ending) (w' : World) : Prop := ∃ v, e = .returned (.tuple #[v, .int .i64 P.2]) ∧ CmIn w' P.1 v ∧ Fr Nob w w'
theorem rparse_end {w W : World} {tmps : Array Value} {cs : Array Value} {n : Int} {P : Cm × Int} (B : Nat) (hB : Blk W B 32 cs) (hs : cs.size = 11) (hp : tmps.getD 2 undef = .pointer (some ⟨B, 0, none⟩)) (hq : tmps.getD 3 undef = .int .i64 n)
    (hc : CmIn W P.1 (.agg cs)) (hn : P.2 = n) (hF : Fr Nob w W) : bodyPost Tryd.prog Tryd.f12 (fun e w' => RPRes P w e w') .ret { tmps := tmps, defers := [] } W := by
  refine bodyPost_ret (results_cell_row_tmp rfl _ _ _ _ _ _ hp hB Tryd.underlying32 rfl (by rw [hs]; exact cmd_size)) rfl ⟨_, ?_, hc, hF⟩
  rw [hq, hn]
theorem numC_nil : numC [] = none := by rw [numC_eq]; rfl
theorem tbl_word : ∀ x ∈ tbl, x.word ≠ [] := by decide
theorem tbl_np : ∀ x ∈ tbl, x.kind ≠ 1 → x.n = 0 ∨ x.p = 0 := by decide
/-- Whether so many numbers fit, as the reference asks it. -/
theorem fits_iff (x : Shp) (K : Nat) (hp : x.p ≤ 3) : x.fits K = true ↔ 2 * (x.lo : Int) ≤ (K : Int) - (x.n : Int) ∧ (K : Int) - (x.n : Int) ≤ 2 * (x.hi : Int) ∧ ((K : Int) - (x.n : Int)) % 2 = 0 := by
  unfold Shp.fits Shp.lo Shp.hi
  by_cases h : x.p = 3
  · rw [if_pos h, if_pos h, if_pos h, decide_eq_true_eq]; omega
  · rw [if_neg h, if_neg h, if_neg h, decide_eq_true_eq]; omega
/-- An empty word: no command. -/
theorem parseC_empty {l : List UInt8} (hl : ¬ 2000 < l.length) (h : [] ∈ spl l) : parseC l = ({ kind := 0 }, 3) := by
  unfold parseC
  rw [if_neg hl]
  obtain ⟨w0, r, e⟩ := spl_cons l
  rw [e] at h ⊢
  rw [List.headD_cons, List.tail_cons]
  rcases List.mem_cons.1 h with h | h
  · subst h
    rw [List.find?_eq_none.2 (fun x hx h => tbl_word x hx (of_decide_eq_true h))]
  · cases tbl.find? (fun x => decide (x.word = w0)) with
    | none => rfl
    | some x =>
      obtain ⟨i, hi, hk⟩ := List.mem_iff_getElem.1 h
      rw [numsC_no hi (by rw [hk]; exact numC_nil)]
theorem parseC_words {l : List UInt8} (hl : ¬ 2000 < l.length) {w0 : List UInt8} {r : List (List UInt8)} (h : spl l = w0 :: r) :
    parseC l = match tbl.find? (fun x => decide (x.word = w0)) with
      | none => ({ kind := 0 }, 3)
      | some x => match numsC r with
        | none => ({ kind := 0 }, 3)
        | some ns => if x.fits ns.length then (x.made ns, 0) else (({ kind := 0 }, 3) : Cm × Int) := by
  unfold parseC
  rw [if_neg hl, h]
  rfl

set_option maxHeartbeats 6400000 in
set_option maxRecDepth 100000 in
theorem RParse_any (l : List UInt8) (w : World) (hs : l.length ≤ 140737488351232) : Calls Tryd.prog 12 #[.string (tx l)] w fun e w' => RPRes (parseC l) w e w' := by
  obtain ⟨i0, hi0, hz0, hz1, hz2⟩ := info_parts' info_i64'
  obtain ⟨j0, hj0, jz0, jz1, jz2⟩ := info_parts' info_P'
  have qL := len_strs
  have qI := len_i64s
  have qP := len_Ps
  have hsz : (tx l).size = l.length := rfl
  obtain ⟨P, hP⟩ : ∃ P, parseC l = P := ⟨_, rfl⟩
  have HP := Lib.hid hP
  rw [hP]
  obtain ⟨N, hN⟩ : ∃ N, l.length = N := ⟨_, rfl⟩
  have HN := Lib.hid hN
  rw [hN] at hs hsz
  obtain ⟨B, hB⟩ : ∃ B, w.heap.size = B := ⟨_, rfl⟩
  have HB := Lib.hid hB
  have HB0 : Hid (Blk (w.alloc (.cells #[.int .i64 0, .int .i64 0, .int .i64 0, .int .i64 0, .bool false, .slice none 0 0, .int .i64 0, .int .i64 0, .int .i64 0, .int .i64 0, .int .i64 0] 32)) B 32 #[.int .i64 0, .int .i64 0, .int .i64 0, .int .i64 0, .bool false, .slice none 0 0, .int .i64 0, .int .i64 0, .int .i64 0, .int .i64 0, .int .i64 0]) := by rw [← hB]; exact Blk.new w _ _
  have HF0 : Hid (Fr Nob w (w.alloc (.cells #[.int .i64 0, .int .i64 0, .int .i64 0, .int .i64 0, .bool false, .slice none 0 0, .int .i64 0, .int .i64 0, .int .i64 0, .int .i64 0, .int .i64 0] 32))) := (Fr.refl _ _).alloc _
  clear hP hN hB
  go_enter Tryd.func12, Tryd.ntmps12
  by_cases h2 : 2000 < N
  · have HP2 : Hid (P = ({ kind := 0 }, 2)) := by show P = _; rw [← HP.out]; unfold parseC; rw [if_pos (by rw [HN.out]; exact h2)]
    have HFE : Hid (Fr Nob w (w.alloc (.cells #[.int .i64 0, .int .i64 0, .int .i64 0, .int .i64 0, .bool false, .slice none 0 0, .int .i64 0, .int .i64 0, .int .i64 0, .int .i64 0, .int .i64 0] 32))) := HF0.out
    have HBw := Lib.hid (Blk.new w 32 #[.int .i64 0, .int .i64 0, .int .i64 0, .int .i64 0, .bool false, .slice none 0 0, .int .i64 0, .int .i64 0, .int .i64 0, .int .i64 0, .int .i64 0])
    go_wp2
    refine rparse_end _ HBw.out rfl rfl rfl ?_ (by rw [HP2.out]) HFE.out
    rw [HP2.out]
    exact ⟨none, 0, rfl, Nat.le_refl _, fun h => absurd h (by simp)⟩
  · have HWs : Hid (∀ W, Calls Tryd.prog 22 #[.string (tx l)] W fun e w' => WordsRes l W e w') := fun W => RWords_any l W (by have := HN.out; omega)
    have h2' : ¬ (2000 : Int) < (N : Int) := by omega
    have HLt : Hid (¬ 2000 < l.length) := by show ¬ _; rw [HN.out]; exact h2
    clear h2
    go_wp2_with fail
    refine (HWs.out _).mono ?_
    rintro e w1 ⟨A, n, c, ok, rfl, hf1, hres⟩
    have HF1 := Lib.hid (HF0.out.trans hf1)
    have HB1 := Lib.hid (HB0.out.fr hf1 (fun h => h))
    rw [HB.out]
    clear hf1 HWs HF0 HB0
    by_cases hem : [] ∈ spl l
    · have hrw : refWords l = none := by unfold refWords; rw [if_pos hem]
      rw [hrw] at hres
      subst hres
      have HP3 : Hid (P = ({ kind := 0 }, 3)) := by show P = _; rw [← HP.out]; exact parseC_empty HLt.out hem
      clear hrw hem
      have hbz := HB1.out
      have e0 := hbz.cell 0
      have e1 := hbz.cell 1
      have e2 := hbz.cell 2
      have e3 := hbz.cell 3
      have e4 := hbz.cell 4
      have e5 := hbz.cell 5
      have e6 := hbz.cell 6
      have e7 := hbz.cell 7
      have e8 := hbz.cell 8
      have e9 := hbz.cell 9
      have e10 := hbz.cell 10
      have fe0 := hbz.frozen 0
      have fe1 := hbz.frozen 1
      have fe2 := hbz.frozen 2
      have fe3 := hbz.frozen 3
      have fe4 := hbz.frozen 4
      have fe5 := hbz.frozen 5
      have fe6 := hbz.frozen 6
      have fe7 := hbz.frozen 7
      have fe8 := hbz.frozen 8
      have fe9 := hbz.frozen 9
      have fe10 := hbz.frozen 10
      simp only [List.getElem?_toArray, List.getElem?_cons_zero, List.getElem?_cons_succ] at e0 e1 e2 e3 e4 e5 e6 e7 e8 e9 e10
      have hzlt := hbz.lt
      have HE : Hid (Blk (((((((((((w1.setCell ⟨B, 0, none⟩ (.int .i64 0)).setCell ⟨B, 1, none⟩ (.int .i64 0)).setCell ⟨B, 2, none⟩ (.int .i64 0)).setCell ⟨B, 3, none⟩ (.int .i64 0)).setCell ⟨B, 4, none⟩ (.bool false)).setCell ⟨B, 5, none⟩ (.slice none 0 0)).setCell ⟨B, 6, none⟩ (.int .i64 0)).setCell ⟨B, 7, none⟩ (.int .i64 0)).setCell ⟨B, 8, none⟩ (.int .i64 0)).setCell ⟨B, 9, none⟩ (.int .i64 0)).setCell ⟨B, 10, none⟩ (.int .i64 0)) B 32 #[.int .i64 0, .int .i64 0, .int .i64 0, .int .i64 0, .bool false, .slice none 0 0, .int .i64 0, .int .i64 0, .int .i64 0, .int .i64 0, .int .i64 0]) := blk_put11 hbz (.int .i64 0) (.int .i64 0) (.int .i64 0) (.int .i64 0) (.bool false) (.slice none 0 0) (.int .i64 0) (.int .i64 0) (.int .i64 0) (.int .i64 0) (.int .i64 0)
      have HFE : Hid (Fr (fun x => x = B) w1 (((((((((((w1.setCell ⟨B, 0, none⟩ (.int .i64 0)).setCell ⟨B, 1, none⟩ (.int .i64 0)).setCell ⟨B, 2, none⟩ (.int .i64 0)).setCell ⟨B, 3, none⟩ (.int .i64 0)).setCell ⟨B, 4, none⟩ (.bool false)).setCell ⟨B, 5, none⟩ (.slice none 0 0)).setCell ⟨B, 6, none⟩ (.int .i64 0)).setCell ⟨B, 7, none⟩ (.int .i64 0)).setCell ⟨B, 8, none⟩ (.int .i64 0)).setCell ⟨B, 9, none⟩ (.int .i64 0)).setCell ⟨B, 10, none⟩ (.int .i64 0))) := (fr_set1 (fr_set1 (fr_set1 (fr_set1 (fr_set1 (fr_set1 (fr_set1 (fr_set1 (fr_set1 (fr_set1 (fr_set1 (Fr.refl (fun x => x = B) w1) B 0 rfl (.int .i64 0)) B 1 rfl (.int .i64 0)) B 2 rfl (.int .i64 0)) B 3 rfl (.int .i64 0)) B 4 rfl (.bool false)) B 5 rfl (.slice none 0 0)) B 6 rfl (.int .i64 0)) B 7 rfl (.int .i64 0)) B 8 rfl (.int .i64 0)) B 9 rfl (.int .i64 0)) B 10 rfl (.int .i64 0))
      have HFW : Hid (Fr Nob w w1) := HF1.out
      have HPn : Hid (P = ({ kind := 0 }, 3)) := HP3
      clear hbz
      go_wp2
      refine rparse_end B HE.out rfl rfl rfl ?_ (by rw [HPn.out]) (Fr.step HFW.out HFE.out (fun i hi e => by have := HB.out; omega))
      rw [HPn.out]
      exact ⟨none, 0, rfl, Nat.le_refl _, fun h => absurd h (by simp)⟩
    · have hrw : refWords l = some (spl l) := by unfold refWords; rw [if_neg hem]
      rw [hrw] at hres
      obtain ⟨rfl, hn, hnc, hst⟩ := hres
      have hlen := spl_len l
      have HEach := Lib.hid (spl_each l)
      obtain ⟨w0, r, hwr⟩ := spl_cons l
      have HPw := Lib.hid (parseC_words HLt.out hwr)
      rw [HP.out] at HPw
      rw [hwr] at hn hst hlen HEach
      have hr : r.length + 1 = n := by rw [hn]; rfl
      obtain ⟨g, o, rfl, hc⟩ := hst (by simp)
      have c0 := hc 0 w0 rfl
      rw [Nat.add_zero] at c0
      have hgz := cell_lt c0
      dsimp only at hgz
      have hn1 : 0 < n := by omega
      have hn2 : n ≤ 2001 := by have := HN.out; omega
      have HR := Lib.hid hr
      have HC := Lib.hid hc
      have HFm := Lib.hid (fun W => forms_any w0 W)
      clear hrw hem hst hlen hwr hn hr hc
      go_wp2_with fail
      refine (HFm.out _).mono ?_
      rintro e w2 ⟨rfl, hf2⟩
      have HF2 := Lib.hid (HF1.out.trans hf2)
      have HB2 := Lib.hid (HB1.out.fr hf2 (fun h => h))
      have HC2 : Hid (∀ j x, (w0 :: r)[j]? = some x → w2.cell? ⟨g, o + j, none⟩ = some (.string (tx x))) := fun j x hx => (hf2.cell (cell_lt (HC.out j x hx)) (fun h => h)).trans (HC.out j x hx)
      have hgz2 : g < w2.heap.size := Nat.lt_of_lt_of_le hgz hf2.size
      clear hf2 HFm HB1 HF1 HC c0
      cases hfd : tbl.find? (fun x => decide (x.word = w0)) with
      | none =>
        rw [hfd] at HPw
        have HP3 : Hid (P = ({ kind := 0 }, 3)) := HPw.out
        clear hfd
        unfold formOf
        dsimp only
        have hbz := (HB2.out.alloc (.cells #[.int .i64 0, .int .i64 0, .bool false, .int .i64 0, .int .i64 0, .int .i64 0] 64))
        have e0 := hbz.cell 0
        have e1 := hbz.cell 1
        have e2 := hbz.cell 2
        have e3 := hbz.cell 3
        have e4 := hbz.cell 4
        have e5 := hbz.cell 5
        have e6 := hbz.cell 6
        have e7 := hbz.cell 7
        have e8 := hbz.cell 8
        have e9 := hbz.cell 9
        have e10 := hbz.cell 10
        have fe0 := hbz.frozen 0
        have fe1 := hbz.frozen 1
        have fe2 := hbz.frozen 2
        have fe3 := hbz.frozen 3
        have fe4 := hbz.frozen 4
        have fe5 := hbz.frozen 5
        have fe6 := hbz.frozen 6
        have fe7 := hbz.frozen 7
        have fe8 := hbz.frozen 8
        have fe9 := hbz.frozen 9
        have fe10 := hbz.frozen 10
        simp only [List.getElem?_toArray, List.getElem?_cons_zero, List.getElem?_cons_succ] at e0 e1 e2 e3 e4 e5 e6 e7 e8 e9 e10
        have hzlt := hbz.lt
        have HE : Hid (Blk ((((((((((((w2.alloc (.cells #[.int .i64 0, .int .i64 0, .bool false, .int .i64 0, .int .i64 0, .int .i64 0] 64)).setCell ⟨B, 0, none⟩ (.int .i64 0)).setCell ⟨B, 1, none⟩ (.int .i64 0)).setCell ⟨B, 2, none⟩ (.int .i64 0)).setCell ⟨B, 3, none⟩ (.int .i64 0)).setCell ⟨B, 4, none⟩ (.bool false)).setCell ⟨B, 5, none⟩ (.slice none 0 0)).setCell ⟨B, 6, none⟩ (.int .i64 0)).setCell ⟨B, 7, none⟩ (.int .i64 0)).setCell ⟨B, 8, none⟩ (.int .i64 0)).setCell ⟨B, 9, none⟩ (.int .i64 0)).setCell ⟨B, 10, none⟩ (.int .i64 0)) B 32 #[.int .i64 0, .int .i64 0, .int .i64 0, .int .i64 0, .bool false, .slice none 0 0, .int .i64 0, .int .i64 0, .int .i64 0, .int .i64 0, .int .i64 0]) := blk_put11 hbz (.int .i64 0) (.int .i64 0) (.int .i64 0) (.int .i64 0) (.bool false) (.slice none 0 0) (.int .i64 0) (.int .i64 0) (.int .i64 0) (.int .i64 0) (.int .i64 0)
        have HFE : Hid (Fr (fun x => x = B) (w2.alloc (.cells #[.int .i64 0, .int .i64 0, .bool false, .int .i64 0, .int .i64 0, .int .i64 0] 64)) ((((((((((((w2.alloc (.cells #[.int .i64 0, .int .i64 0, .bool false, .int .i64 0, .int .i64 0, .int .i64 0] 64)).setCell ⟨B, 0, none⟩ (.int .i64 0)).setCell ⟨B, 1, none⟩ (.int .i64 0)).setCell ⟨B, 2, none⟩ (.int .i64 0)).setCell ⟨B, 3, none⟩ (.int .i64 0)).setCell ⟨B, 4, none⟩ (.bool false)).setCell ⟨B, 5, none⟩ (.slice none 0 0)).setCell ⟨B, 6, none⟩ (.int .i64 0)).setCell ⟨B, 7, none⟩ (.int .i64 0)).setCell ⟨B, 8, none⟩ (.int .i64 0)).setCell ⟨B, 9, none⟩ (.int .i64 0)).setCell ⟨B, 10, none⟩ (.int .i64 0))) := (fr_set1 (fr_set1 (fr_set1 (fr_set1 (fr_set1 (fr_set1 (fr_set1 (fr_set1 (fr_set1 (fr_set1 (fr_set1 (Fr.refl (fun x => x = B) (w2.alloc (.cells #[.int .i64 0, .int .i64 0, .bool false, .int .i64 0, .int .i64 0, .int .i64 0] 64))) B 0 rfl (.int .i64 0)) B 1 rfl (.int .i64 0)) B 2 rfl (.int .i64 0)) B 3 rfl (.int .i64 0)) B 4 rfl (.bool false)) B 5 rfl (.slice none 0 0)) B 6 rfl (.int .i64 0)) B 7 rfl (.int .i64 0)) B 8 rfl (.int .i64 0)) B 9 rfl (.int .i64 0)) B 10 rfl (.int .i64 0))
        have HFW : Hid (Fr Nob w (w2.alloc (.cells #[.int .i64 0, .int .i64 0, .bool false, .int .i64 0, .int .i64 0, .int .i64 0] 64))) := (HF2.out.alloc _)
        have HPn : Hid (P = ({ kind := 0 }, 3)) := HP3
        clear hbz
        go_wp2
        refine rparse_end B HE.out rfl rfl rfl ?_ (by rw [HPn.out]) (Fr.step HFW.out HFE.out (fun i hi e => by have := HB.out; omega))
        rw [HPn.out]
        exact ⟨none, 0, rfl, Nat.le_refl _, fun h => absurd h (by simp)⟩
      | some x =>
        rw [hfd] at HPw
        have hxm := List.mem_of_find?_eq_some hfd
        have hxb := tbl_bounds x hxm
        have HKd := Lib.hid (tbl_kinds x hxm)
        clear hfd
        obtain ⟨wd, kd, op, fr, xn, xp⟩ := x
        dsimp only at hxb HPw
        obtain ⟨lo, hlo⟩ : ∃ lo, (⟨wd, kd, op, fr, xn, xp⟩ : Shp).lo = lo := ⟨_, rfl⟩
        obtain ⟨hi, hhi⟩ : ∃ hi, (⟨wd, kd, op, fr, xn, xp⟩ : Shp).hi = hi := ⟨_, rfl⟩
        unfold formOf Shp.form
        dsimp only
        rw [hlo, hhi]
        have HLo := Lib.hid hlo
        have HHi := Lib.hid hhi
        have hlo64 : lo ≤ 64 := by rw [← hlo]; unfold Shp.lo; dsimp only; split <;> omega
        have hhi64 : hi ≤ 64 := by rw [← hhi]; unfold Shp.hi; dsimp only; split <;> omega
        obtain ⟨hxn2, hxp3⟩ := hxb
        have HFf : Hid (Blk (w2.alloc (.cells #[.int .i64 kd, .int .i64 op, .bool fr, .int .i64 xn, .int .i64 lo, .int .i64 hi] 64)) w2.heap.size 64 #[.int .i64 kd, .int .i64 op, .bool fr, .int .i64 xn, .int .i64 lo, .int .i64 hi]) := Blk.new w2 _ _
        have HF3 : Hid (Fr Nob w (w2.alloc (.cells #[.int .i64 kd, .int .i64 op, .bool fr, .int .i64 xn, .int .i64 lo, .int .i64 hi] 64))) := HF2.out.alloc _
        have HB3 : Hid (Blk (w2.alloc (.cells #[.int .i64 kd, .int .i64 op, .bool fr, .int .i64 xn, .int .i64 lo, .int .i64 hi] 64)) B 32 #[.int .i64 0, .int .i64 0, .int .i64 0, .int .i64 0, .bool false, .slice none 0 0, .int .i64 0, .int .i64 0, .int .i64 0, .int .i64 0, .int .i64 0]) := HB2.out.alloc _
        have hBlt := HB2.out.lt
        have HC3 : Hid (∀ j x, (w0 :: r)[j]? = some x → (w2.alloc (.cells #[.int .i64 kd, .int .i64 op, .bool fr, .int .i64 xn, .int .i64 lo, .int .i64 hi] 64)).cell? ⟨g, o + j, none⟩ = some (.string (tx x))) := fun j x hx => (((Fr.refl Nob w2).alloc _).cell (cell_lt (HC2.out j x hx)) (fun h => h)).trans (HC2.out j x hx)
        clear hlo hhi HF2 HB2 HC2
        go_wp2_with fail
        go_loopw [7, 8] (fun v i wr => ∃ (k : Nat) (ns : List Int), k ≤ r.length ∧ i = .int .i64 ((k : Int) + 1) ∧ Hid (numsC (r.take k) = some ns) ∧ Hid (wr.ownsRow (w2.heap.size + 1) 2 1 v k (ints ns)) ∧ Hid (Fr Nob (w2.alloc (.cells #[.int .i64 kd, .int .i64 op, .bool fr, .int .i64 xn, .int .i64 lo, .int .i64 hi] 64)) wr)) (fun _ i _ => n - (intOf i).toNat)
        case atStart => exact ⟨0, [], Nat.zero_le _, rfl, rfl, World.ownsRow_nil _ _ _ _, Fr.refl _ _⟩
        case round =>
          obtain ⟨k, ns, hk, rfl, hns, ho, hF⟩ := hrel
          have hrn := HR.out
          by_cases hlt : k < r.length
          · have hkn : (k : Int) + 1 < (n : Int) := by omega
            have kt : ((k : Int) + 1).toNat = k + 1 := by omega
            have ki : (0 : Int) ≤ (k : Int) + 1 := by omega
            have kw : IntKind.i64.wrap ((k : Int) + 1 + 1) = (k : Int) + 1 + 1 := by rw [IntKind.wrap_i64]; omega
            have cx := (hF.out.cell (p := ⟨g, o + (k + 1), none⟩) (by show g < _; rw [World.size_alloc]; omega) (fun h => h)).trans (HC3.out (k + 1) r[k] (by simp [List.getElem?_eq_getElem hlt]))
            have hgw : g < wr.heap.size := cell_lt cx
            have hea := (HEach.out r[k] (by simp)).1
            obtain ⟨z, hz⟩ : ∃ z, r[k] = z := ⟨_, rfl⟩
            rw [hz] at cx hea
            have HZ := Lib.hid hz
            have HNm := Lib.hid (RNumber_any z wr (by have := HN.out; omega))
            clear hz hrn hea
            go_wp2_with fail
            refine HNm.out.mono ?_
            rintro e w4 ⟨m, ok, rfl, ⟨hmb, hcase⟩, rfl⟩
            rcases hcase with ⟨rfl, hok⟩ | ⟨rfl, hno⟩
            · have HS := Lib.hid (numsC_take hlt hns.out (HZ.out ▸ hok))
              have HO : Hid ((w4.alloc (.cells #[.int .i64 m] 2)).ownsRow (w2.heap.size + 1) 2 1 u7 k (ints ns)) := own_fr ho.out ((Fr.refl Nob w4).alloc _) (fun _ _ h => h)
              have HNw := Lib.hid (cell_one_new w4 (.int .i64 m) 2)
              have HFn : Hid (Fr Nob (w2.alloc (.cells #[.int .i64 kd, .int .i64 op, .bool fr, .int .i64 xn, .int .i64 lo, .int .i64 hi] 64)) (w4.alloc (.cells #[.int .i64 m] 2))) := hF.out.alloc _
              have hb04 : w2.heap.size + 1 ≤ (w4.alloc (.cells #[.int .i64 m] 2)).heap.size := by have := HFn.out.size; rw [World.size_alloc] at this; exact this
              have hk3 : k ≤ 3000 := by have := HR.out; omega
              clear hok hmb ho hF cx hns HNm
              go_wp2_with (at_builtin; go_must (refine wpList_append_own_at _ rfl (.tmp 54) (.tmp 56) 55 rfl (w2.heap.size + 1) 2 i0 (.int .i64 0) 1 8 Tryd.underlying55 hi0 hz0 hz1 hz2 rfl (by decide) u7 k (ints ns) rfl HO.out ⟨w4.heap.size, 0, none⟩ 1 1 [.int .i64 m] rfl rfl HNw.out (by simp [Value.oneCell']) (by unfold maxLen; omega) (by omega) hb04 ?_); intro v7 w7 hown7 hg7 hn7 hat7)
              have HO7 : Hid (w7.ownsRow (w2.heap.size + 1) 2 1 v7 (k + 1) (ints (ns ++ [m]))) := by rw [ints_append]; exact hown7
              have HF7 : Hid (Fr Nob (w2.alloc (.cells #[.int .i64 kd, .int .i64 op, .bool fr, .int .i64 xn, .int .i64 lo, .int .i64 hi] 64)) w7) := Fr.grown HFn.out hg7 (fun r hr => .inl (by rw [World.size_alloc]; exact (HO.out.lt r hr).1))
              clear hown7 hg7 hn7 hat7
              go_wp2
              go_roundw
              case rel => exact ⟨k + 1, _, by omega, by go_num, HS, HO7, HF7⟩
              case measure => simp [intOf]; omega
            · have hnn := numsC_no hlt (HZ.out ▸ hno)
              have HP3 : Hid (P = ({ kind := 0 }, 3)) := by
                have := HPw.out
                rw [hnn] at this
                exact this
              clear hno hnn hmb ho cx hns HNm HZ
              have hbz := (HB3.out.fr hF.out (fun h => h))
              have e0 := hbz.cell 0
              have e1 := hbz.cell 1
              have e2 := hbz.cell 2
              have e3 := hbz.cell 3
              have e4 := hbz.cell 4
              have e5 := hbz.cell 5
              have e6 := hbz.cell 6
              have e7 := hbz.cell 7
              have e8 := hbz.cell 8
              have e9 := hbz.cell 9
              have e10 := hbz.cell 10
              have fe0 := hbz.frozen 0
              have fe1 := hbz.frozen 1
              have fe2 := hbz.frozen 2
              have fe3 := hbz.frozen 3
              have fe4 := hbz.frozen 4
              have fe5 := hbz.frozen 5
              have fe6 := hbz.frozen 6
              have fe7 := hbz.frozen 7
              have fe8 := hbz.frozen 8
              have fe9 := hbz.frozen 9
              have fe10 := hbz.frozen 10
              simp only [List.getElem?_toArray, List.getElem?_cons_zero, List.getElem?_cons_succ] at e0 e1 e2 e3 e4 e5 e6 e7 e8 e9 e10
              have hzlt := hbz.lt
              have HE : Hid (Blk (((((((((((w4.setCell ⟨B, 0, none⟩ (.int .i64 0)).setCell ⟨B, 1, none⟩ (.int .i64 0)).setCell ⟨B, 2, none⟩ (.int .i64 0)).setCell ⟨B, 3, none⟩ (.int .i64 0)).setCell ⟨B, 4, none⟩ (.bool false)).setCell ⟨B, 5, none⟩ (.slice none 0 0)).setCell ⟨B, 6, none⟩ (.int .i64 0)).setCell ⟨B, 7, none⟩ (.int .i64 0)).setCell ⟨B, 8, none⟩ (.int .i64 0)).setCell ⟨B, 9, none⟩ (.int .i64 0)).setCell ⟨B, 10, none⟩ (.int .i64 0)) B 32 #[.int .i64 0, .int .i64 0, .int .i64 0, .int .i64 0, .bool false, .slice none 0 0, .int .i64 0, .int .i64 0, .int .i64 0, .int .i64 0, .int .i64 0]) := blk_put11 hbz (.int .i64 0) (.int .i64 0) (.int .i64 0) (.int .i64 0) (.bool false) (.slice none 0 0) (.int .i64 0) (.int .i64 0) (.int .i64 0) (.int .i64 0) (.int .i64 0)
              have HFE : Hid (Fr (fun x => x = B) w4 (((((((((((w4.setCell ⟨B, 0, none⟩ (.int .i64 0)).setCell ⟨B, 1, none⟩ (.int .i64 0)).setCell ⟨B, 2, none⟩ (.int .i64 0)).setCell ⟨B, 3, none⟩ (.int .i64 0)).setCell ⟨B, 4, none⟩ (.bool false)).setCell ⟨B, 5, none⟩ (.slice none 0 0)).setCell ⟨B, 6, none⟩ (.int .i64 0)).setCell ⟨B, 7, none⟩ (.int .i64 0)).setCell ⟨B, 8, none⟩ (.int .i64 0)).setCell ⟨B, 9, none⟩ (.int .i64 0)).setCell ⟨B, 10, none⟩ (.int .i64 0))) := (fr_set1 (fr_set1 (fr_set1 (fr_set1 (fr_set1 (fr_set1 (fr_set1 (fr_set1 (fr_set1 (fr_set1 (fr_set1 (Fr.refl (fun x => x = B) w4) B 0 rfl (.int .i64 0)) B 1 rfl (.int .i64 0)) B 2 rfl (.int .i64 0)) B 3 rfl (.int .i64 0)) B 4 rfl (.bool false)) B 5 rfl (.slice none 0 0)) B 6 rfl (.int .i64 0)) B 7 rfl (.int .i64 0)) B 8 rfl (.int .i64 0)) B 9 rfl (.int .i64 0)) B 10 rfl (.int .i64 0))
              have HFW : Hid (Fr Nob w w4) := (HF3.out.trans hF.out)
              have HPn : Hid (P = ({ kind := 0 }, 3)) := HP3
              clear hbz
              go_wp2
              refine rparse_end B HE.out rfl rfl rfl ?_ (by rw [HPn.out]) (Fr.step HFW.out HFE.out (fun i hi e => by have := HB.out; omega))
              rw [HPn.out]
              exact ⟨none, 0, rfl, Nat.le_refl _, fun h => absurd h (by simp)⟩
          · obtain rfl : k = r.length := by omega
            have hkn : ¬ (r.length : Int) + 1 < (n : Int) := by have := HR.out; omega
            have hall : r.take r.length = r := List.take_of_length_le (Nat.le_refl _)
            rw [hall] at hns
            obtain ⟨W3, hW3⟩ : ∃ W3, W3 = wr := ⟨_, rfl⟩
            subst hW3
            have hnl := numsC_length hns.out
            obtain ⟨A, c', rfl, hnc', hI, hSl⟩ := i64In_row ho.out hnl.symm
            have hP : P = if (⟨wd, kd, op, fr, xn, xp⟩ : Shp).fits ns.length then ((⟨wd, kd, op, fr, xn, xp⟩ : Shp).made ns, 0) else ({ kind := 0 }, 3) := by
              have := HPw.out
              rw [hns.out] at this
              exact this
            have HP4 := Lib.hid hP
            have HI := Lib.hid hI
            have HFw := Lib.hid (HF3.out.trans hF.out)
            have HBw := Lib.hid (HB3.out.fr hF.out (fun h => h))
            have hff := HFf.out.fr hF.out (fun h => h)
            have y0 := hff.cell 0
            have y1 := hff.cell 1
            have y2 := hff.cell 2
            have y3 := hff.cell 3
            have y4 := hff.cell 4
            have y5 := hff.cell 5
            have hfz := hff.lt
            simp only [List.getElem?_toArray, List.getElem?_cons_zero, List.getElem?_cons_succ] at y0 y1 y2 y3 y4 y5
            have HFFm := Lib.hid hff
            have hrl : r.length ≤ 3000 := by have := HR.out; omega
            obtain ⟨K, hK⟩ : ∃ K, r.length = K := ⟨_, rfl⟩
            rw [hK] at hrl hnc' hSl hkn ⊢
            have HK : Hid (ns.length = K) := by show _ = _; rw [hnl, hK]
            have kq : -10000 ≤ (K : Int) - (xn : Int) ∧ (K : Int) - (xn : Int) ≤ 10000 := by omega
            have kl : IntKind.i64.wrap (2 * (lo : Int)) = 2 * (lo : Int) := by rw [IntKind.wrap_i64]; omega
            have kh : IntKind.i64.wrap (2 * (hi : Int)) = 2 * (hi : Int) := by rw [IntKind.wrap_i64]; omega
            have HFit := Lib.hid (fits_iff ⟨wd, kd, op, fr, xn, xp⟩ K hxp3)
            have hfi := HFit.out
            dsimp only at hfi
            rw [HLo.out, HHi.out] at hfi
            have HFi := Lib.hid hfi
            clear hrn hk hP hI hff hns ho hF hall hnl hK hfi HPw HF3 HB3 HC3 HFf HFit hlt
            by_cases c1 : (K : Int) - (xn : Int) < 2 * (lo : Int)
            · have HP3 : Hid (P = ({ kind := 0 }, 3)) := by
                have := HP4.out
                rwa [HK.out, if_neg (fun h => by have := (HFi.out.1 h).1; omega)] at this
              have hbz := HBw.out
              have e0 := hbz.cell 0
              have e1 := hbz.cell 1
              have e2 := hbz.cell 2
              have e3 := hbz.cell 3
              have e4 := hbz.cell 4
              have e5 := hbz.cell 5
              have e6 := hbz.cell 6
              have e7 := hbz.cell 7
              have e8 := hbz.cell 8
              have e9 := hbz.cell 9
              have e10 := hbz.cell 10
              have fe0 := hbz.frozen 0
              have fe1 := hbz.frozen 1
              have fe2 := hbz.frozen 2
              have fe3 := hbz.frozen 3
              have fe4 := hbz.frozen 4
              have fe5 := hbz.frozen 5
              have fe6 := hbz.frozen 6
              have fe7 := hbz.frozen 7
              have fe8 := hbz.frozen 8
              have fe9 := hbz.frozen 9
              have fe10 := hbz.frozen 10
              simp only [List.getElem?_toArray, List.getElem?_cons_zero, List.getElem?_cons_succ] at e0 e1 e2 e3 e4 e5 e6 e7 e8 e9 e10
              have hzlt := hbz.lt
              have HE : Hid (Blk (((((((((((W3.setCell ⟨B, 0, none⟩ (.int .i64 0)).setCell ⟨B, 1, none⟩ (.int .i64 0)).setCell ⟨B, 2, none⟩ (.int .i64 0)).setCell ⟨B, 3, none⟩ (.int .i64 0)).setCell ⟨B, 4, none⟩ (.bool false)).setCell ⟨B, 5, none⟩ (.slice none 0 0)).setCell ⟨B, 6, none⟩ (.int .i64 0)).setCell ⟨B, 7, none⟩ (.int .i64 0)).setCell ⟨B, 8, none⟩ (.int .i64 0)).setCell ⟨B, 9, none⟩ (.int .i64 0)).setCell ⟨B, 10, none⟩ (.int .i64 0)) B 32 #[.int .i64 0, .int .i64 0, .int .i64 0, .int .i64 0, .bool false, .slice none 0 0, .int .i64 0, .int .i64 0, .int .i64 0, .int .i64 0, .int .i64 0]) := blk_put11 hbz (.int .i64 0) (.int .i64 0) (.int .i64 0) (.int .i64 0) (.bool false) (.slice none 0 0) (.int .i64 0) (.int .i64 0) (.int .i64 0) (.int .i64 0) (.int .i64 0)
              have HFE : Hid (Fr (fun x => x = B) W3 (((((((((((W3.setCell ⟨B, 0, none⟩ (.int .i64 0)).setCell ⟨B, 1, none⟩ (.int .i64 0)).setCell ⟨B, 2, none⟩ (.int .i64 0)).setCell ⟨B, 3, none⟩ (.int .i64 0)).setCell ⟨B, 4, none⟩ (.bool false)).setCell ⟨B, 5, none⟩ (.slice none 0 0)).setCell ⟨B, 6, none⟩ (.int .i64 0)).setCell ⟨B, 7, none⟩ (.int .i64 0)).setCell ⟨B, 8, none⟩ (.int .i64 0)).setCell ⟨B, 9, none⟩ (.int .i64 0)).setCell ⟨B, 10, none⟩ (.int .i64 0))) := (fr_set1 (fr_set1 (fr_set1 (fr_set1 (fr_set1 (fr_set1 (fr_set1 (fr_set1 (fr_set1 (fr_set1 (fr_set1 (Fr.refl (fun x => x = B) W3) B 0 rfl (.int .i64 0)) B 1 rfl (.int .i64 0)) B 2 rfl (.int .i64 0)) B 3 rfl (.int .i64 0)) B 4 rfl (.bool false)) B 5 rfl (.slice none 0 0)) B 6 rfl (.int .i64 0)) B 7 rfl (.int .i64 0)) B 8 rfl (.int .i64 0)) B 9 rfl (.int .i64 0)) B 10 rfl (.int .i64 0))
              have HFW : Hid (Fr Nob w W3) := HFw.out
              have HPn : Hid (P = ({ kind := 0 }, 3)) := HP3
              clear hbz
              go_wp2
              refine rparse_end B HE.out rfl rfl rfl ?_ (by rw [HPn.out]) (Fr.step HFW.out HFE.out (fun i hi e => by have := HB.out; omega))
              rw [HPn.out]
              exact ⟨none, 0, rfl, Nat.le_refl _, fun h => absurd h (by simp)⟩
            by_cases c2 : 2 * (hi : Int) < (K : Int) - (xn : Int)
            · have HP3 : Hid (P = ({ kind := 0 }, 3)) := by
                have := HP4.out
                rwa [HK.out, if_neg (fun h => by have := (HFi.out.1 h).2.1; omega)] at this
              have hbz := HBw.out
              have e0 := hbz.cell 0
              have e1 := hbz.cell 1
              have e2 := hbz.cell 2
              have e3 := hbz.cell 3
              have e4 := hbz.cell 4
              have e5 := hbz.cell 5
              have e6 := hbz.cell 6
              have e7 := hbz.cell 7
              have e8 := hbz.cell 8
              have e9 := hbz.cell 9
              have e10 := hbz.cell 10
              have fe0 := hbz.frozen 0
              have fe1 := hbz.frozen 1
              have fe2 := hbz.frozen 2
              have fe3 := hbz.frozen 3
              have fe4 := hbz.frozen 4
              have fe5 := hbz.frozen 5
              have fe6 := hbz.frozen 6
              have fe7 := hbz.frozen 7
              have fe8 := hbz.frozen 8
              have fe9 := hbz.frozen 9
              have fe10 := hbz.frozen 10
              simp only [List.getElem?_toArray, List.getElem?_cons_zero, List.getElem?_cons_succ] at e0 e1 e2 e3 e4 e5 e6 e7 e8 e9 e10
              have hzlt := hbz.lt
              have HE : Hid (Blk (((((((((((W3.setCell ⟨B, 0, none⟩ (.int .i64 0)).setCell ⟨B, 1, none⟩ (.int .i64 0)).setCell ⟨B, 2, none⟩ (.int .i64 0)).setCell ⟨B, 3, none⟩ (.int .i64 0)).setCell ⟨B, 4, none⟩ (.bool false)).setCell ⟨B, 5, none⟩ (.slice none 0 0)).setCell ⟨B, 6, none⟩ (.int .i64 0)).setCell ⟨B, 7, none⟩ (.int .i64 0)).setCell ⟨B, 8, none⟩ (.int .i64 0)).setCell ⟨B, 9, none⟩ (.int .i64 0)).setCell ⟨B, 10, none⟩ (.int .i64 0)) B 32 #[.int .i64 0, .int .i64 0, .int .i64 0, .int .i64 0, .bool false, .slice none 0 0, .int .i64 0, .int .i64 0, .int .i64 0, .int .i64 0, .int .i64 0]) := blk_put11 hbz (.int .i64 0) (.int .i64 0) (.int .i64 0) (.int .i64 0) (.bool false) (.slice none 0 0) (.int .i64 0) (.int .i64 0) (.int .i64 0) (.int .i64 0) (.int .i64 0)
              have HFE : Hid (Fr (fun x => x = B) W3 (((((((((((W3.setCell ⟨B, 0, none⟩ (.int .i64 0)).setCell ⟨B, 1, none⟩ (.int .i64 0)).setCell ⟨B, 2, none⟩ (.int .i64 0)).setCell ⟨B, 3, none⟩ (.int .i64 0)).setCell ⟨B, 4, none⟩ (.bool false)).setCell ⟨B, 5, none⟩ (.slice none 0 0)).setCell ⟨B, 6, none⟩ (.int .i64 0)).setCell ⟨B, 7, none⟩ (.int .i64 0)).setCell ⟨B, 8, none⟩ (.int .i64 0)).setCell ⟨B, 9, none⟩ (.int .i64 0)).setCell ⟨B, 10, none⟩ (.int .i64 0))) := (fr_set1 (fr_set1 (fr_set1 (fr_set1 (fr_set1 (fr_set1 (fr_set1 (fr_set1 (fr_set1 (fr_set1 (fr_set1 (Fr.refl (fun x => x = B) W3) B 0 rfl (.int .i64 0)) B 1 rfl (.int .i64 0)) B 2 rfl (.int .i64 0)) B 3 rfl (.int .i64 0)) B 4 rfl (.bool false)) B 5 rfl (.slice none 0 0)) B 6 rfl (.int .i64 0)) B 7 rfl (.int .i64 0)) B 8 rfl (.int .i64 0)) B 9 rfl (.int .i64 0)) B 10 rfl (.int .i64 0))
              have HFW : Hid (Fr Nob w W3) := HFw.out
              have HPn : Hid (P = ({ kind := 0 }, 3)) := HP3
              clear hbz
              go_wp2
              refine rparse_end B HE.out rfl rfl rfl ?_ (by rw [HPn.out]) (Fr.step HFW.out HFE.out (fun i hi e => by have := HB.out; omega))
              rw [HPn.out]
              exact ⟨none, 0, rfl, Nat.le_refl _, fun h => absurd h (by simp)⟩
            by_cases c3 : ((K : Int) - (xn : Int)) % 2 = 0
            rotate_left
            · have HP3 : Hid (P = ({ kind := 0 }, 3)) := by
                have := HP4.out
                rwa [HK.out, if_neg (fun h => c3 (HFi.out.1 h).2.2)] at this
              have km : ((K : Int) - (xn : Int)).tmod 2 = 1 := by rw [Int.tmod_eq_emod_of_nonneg (by omega)]; omega
              clear c3
              have hbz := HBw.out
              have e0 := hbz.cell 0
              have e1 := hbz.cell 1
              have e2 := hbz.cell 2
              have e3 := hbz.cell 3
              have e4 := hbz.cell 4
              have e5 := hbz.cell 5
              have e6 := hbz.cell 6
              have e7 := hbz.cell 7
              have e8 := hbz.cell 8
              have e9 := hbz.cell 9
              have e10 := hbz.cell 10
              have fe0 := hbz.frozen 0
              have fe1 := hbz.frozen 1
              have fe2 := hbz.frozen 2
              have fe3 := hbz.frozen 3
              have fe4 := hbz.frozen 4
              have fe5 := hbz.frozen 5
              have fe6 := hbz.frozen 6
              have fe7 := hbz.frozen 7
              have fe8 := hbz.frozen 8
              have fe9 := hbz.frozen 9
              have fe10 := hbz.frozen 10
              simp only [List.getElem?_toArray, List.getElem?_cons_zero, List.getElem?_cons_succ] at e0 e1 e2 e3 e4 e5 e6 e7 e8 e9 e10
              have hzlt := hbz.lt
              have HE : Hid (Blk (((((((((((W3.setCell ⟨B, 0, none⟩ (.int .i64 0)).setCell ⟨B, 1, none⟩ (.int .i64 0)).setCell ⟨B, 2, none⟩ (.int .i64 0)).setCell ⟨B, 3, none⟩ (.int .i64 0)).setCell ⟨B, 4, none⟩ (.bool false)).setCell ⟨B, 5, none⟩ (.slice none 0 0)).setCell ⟨B, 6, none⟩ (.int .i64 0)).setCell ⟨B, 7, none⟩ (.int .i64 0)).setCell ⟨B, 8, none⟩ (.int .i64 0)).setCell ⟨B, 9, none⟩ (.int .i64 0)).setCell ⟨B, 10, none⟩ (.int .i64 0)) B 32 #[.int .i64 0, .int .i64 0, .int .i64 0, .int .i64 0, .bool false, .slice none 0 0, .int .i64 0, .int .i64 0, .int .i64 0, .int .i64 0, .int .i64 0]) := blk_put11 hbz (.int .i64 0) (.int .i64 0) (.int .i64 0) (.int .i64 0) (.bool false) (.slice none 0 0) (.int .i64 0) (.int .i64 0) (.int .i64 0) (.int .i64 0) (.int .i64 0)
              have HFE : Hid (Fr (fun x => x = B) W3 (((((((((((W3.setCell ⟨B, 0, none⟩ (.int .i64 0)).setCell ⟨B, 1, none⟩ (.int .i64 0)).setCell ⟨B, 2, none⟩ (.int .i64 0)).setCell ⟨B, 3, none⟩ (.int .i64 0)).setCell ⟨B, 4, none⟩ (.bool false)).setCell ⟨B, 5, none⟩ (.slice none 0 0)).setCell ⟨B, 6, none⟩ (.int .i64 0)).setCell ⟨B, 7, none⟩ (.int .i64 0)).setCell ⟨B, 8, none⟩ (.int .i64 0)).setCell ⟨B, 9, none⟩ (.int .i64 0)).setCell ⟨B, 10, none⟩ (.int .i64 0))) := (fr_set1 (fr_set1 (fr_set1 (fr_set1 (fr_set1 (fr_set1 (fr_set1 (fr_set1 (fr_set1 (fr_set1 (fr_set1 (Fr.refl (fun x => x = B) W3) B 0 rfl (.int .i64 0)) B 1 rfl (.int .i64 0)) B 2 rfl (.int .i64 0)) B 3 rfl (.int .i64 0)) B 4 rfl (.bool false)) B 5 rfl (.slice none 0 0)) B 6 rfl (.int .i64 0)) B 7 rfl (.int .i64 0)) B 8 rfl (.int .i64 0)) B 9 rfl (.int .i64 0)) B 10 rfl (.int .i64 0))
              have HFW : Hid (Fr Nob w W3) := HFw.out
              have HPn : Hid (P = ({ kind := 0 }, 3)) := HP3
              clear hbz
              go_wp2
              refine rparse_end B HE.out rfl rfl rfl ?_ (by rw [HPn.out]) (Fr.step HFW.out HFE.out (fun i hi e => by have := HB.out; omega))
              rw [HPn.out]
              exact ⟨none, 0, rfl, Nat.le_refl _, fun h => absurd h (by simp)⟩
            have km : ((K : Int) - (xn : Int)).tmod 2 = 0 := by rw [Int.tmod_eq_emod_of_nonneg (by omega)]; omega
            have hP := HP4.out
            rw [HK.out, if_pos (HFi.out.2 ⟨by omega, by omega, c3⟩)] at hP
            have HP5 := Lib.hid hP
            obtain ⟨M, hM⟩ : ∃ M : Nat, K = xn + 2 * M := ⟨(K - xn) / 2, by omega⟩
            clear hP HP4 HFi c3
            obtain ⟨l2, hl2⟩ : ∃ l2, ns.drop xn = l2 := ⟨_, rfl⟩
            have hl2n : l2.length = 2 * M := by rw [← hl2, List.length_drop, HK.out]; omega
            have hpl : (prs l2).length = M := by rw [prs_length, hl2n]; omega
            have HL2 := Lib.hid hl2
            have HL2n := Lib.hid hl2n
            have HPl := Lib.hid hpl
            have HKM := Lib.hid hM
            have kM : M ≤ 3000 := by omega
            have kMi : (K : Int) = (xn : Int) + 2 * (M : Int) := by omega
            have HKMi := Lib.hid kMi
            clear hl2 hl2n hpl hM kMi
            go_wp2
            go_loopw [12, 13] (fun v i wr => ∃ (k : Nat), k ≤ M ∧ i = .int .i64 ((xn : Int) + 2 * (k : Int)) ∧ Hid (wr.ownsRow W3.heap.size 30 2 v k (pcs (prs (l2.take (2 * k))))) ∧ Hid (Fr Nob W3 wr)) (fun _ i _ => K - (intOf i).toNat)
            case atStart => exact ⟨0, Nat.zero_le _, by simp, by simp only [Nat.mul_zero, List.take_zero]; exact World.ownsRow_nil _ _ _ _, Fr.refl _ _⟩
            case round =>
              obtain ⟨k, hk, rfl, ho, hF⟩ := hrel
              by_cases hlt : k < M
              · have hlt' : 2 * k + 1 < l2.length := by rw [HL2n.out]; omega
                have hkm := HKM.out
                have hkmi := HKMi.out
                obtain ⟨ga, oa, rfl, hc⟩ := HI.out (by rw [HK.out]; omega)
                have hns : ∀ j (h : j < l2.length), ns[xn + j]? = some l2[j] := by
                  intro j h
                  rw [← List.getElem?_drop, HL2.out, List.getElem?_eq_getElem h]
                have c0 := hc (xn + 2 * k) _ (hns (2 * k) (by omega))
                have c1 := hc (xn + 2 * k + 1) _ (by rw [Nat.add_assoc]; exact hns (2 * k + 1) hlt')
                have hgl := cell_lt c0
                dsimp only at hgl
                rw [← hF.out.cell (cell_lt c0) (fun h => h)] at c0
                rw [← hF.out.cell (cell_lt c1) (fun h => h)] at c1
                have hst := prs_step hlt'
                obtain ⟨x, hx⟩ : ∃ x, l2[2 * k] = x := ⟨_, rfl⟩
                obtain ⟨y, hy⟩ : ∃ y, l2[2 * k + 1] = y := ⟨_, rfl⟩
                rw [hx, hy] at hst
                rw [hx] at c0
                rw [hy] at c1
                have hgw : ga < wr.heap.size := Nat.lt_of_lt_of_le hgl hF.out.size
                obtain ⟨ps, hps⟩ : ∃ ps, prs (l2.take (2 * k)) = ps := ⟨_, rfl⟩
                rw [hps] at hst ho
                have HSt := Lib.hid hst
                have HC0 := Lib.hid c0
                have HC1 := Lib.hid c1
                have ki : (0 : Int) ≤ (xn : Int) + 2 * (k : Int) := by omega
                have kw : IntKind.i64.wrap ((xn : Int) + 2 * (k : Int) + 1) = (xn : Int) + 2 * (k : Int) + 1 := by rw [IntKind.wrap_i64]; omega
                have kw2 : IntKind.i64.wrap ((xn : Int) + 2 * (k : Int) + 2) = (xn : Int) + 2 * (k : Int) + 2 := by rw [IntKind.wrap_i64]; omega
                have kw1 : (0 : Int) ≤ (xn : Int) + 2 * (k : Int) + 1 := by omega
                have kt : ((xn : Int) + 2 * (k : Int)).toNat = xn + 2 * k := by omega
                have k0 : ((xn : Int) + 2 * (k : Int)) < (K : Int) := by omega
                have k1 : ((xn : Int) + 2 * (k : Int)) + 1 < (K : Int) := by omega
                have k2 : (((xn : Int) + 2 * (k : Int)) + 1).toNat = xn + 2 * k + 1 := by omega
                clear hst hx hy c0 c1 hc hps hkm hkmi hns
                go_wp2
                have hS : Fr (fun b => W3.heap.size ≤ b) wr wr.drew := (Fr.refl _ wr).drew
                refine Rg.begin' (Fr (fun b => W3.heap.size ≤ b) wr) [] (by kernel_rfl) ?_
                refine Rg.op 0 (some 89) hS (v := ?v0a) (a' := ?a0a) (hy := fun wz hwz => ?h0a) (ha := ?b0a) (h := ?_)
                case h0a => (go_simp; try with_reducible rfl)
                case b0a => (simp only [Act.put, List.setIfInBounds_toArray, List.set_cons_zero, List.set_cons_succ]; rfl)
                refine Rg.op 1 (some 90) hS (v := ?v1a) (a' := ?a1a) (hy := fun wz hwz => ?h1a) (ha := ?b1a) (h := ?_)
                case h1a => (go_simp; try with_reducible rfl)
                case b1a => (simp only [Act.put, List.setIfInBounds_toArray, List.set_cons_zero, List.set_cons_succ]; rfl)
                refine Rg.op 2 (some 91) hS (v := ?v2a) (a' := ?a2a) (hy := fun wz hwz => ?h2a) (ha := ?b2a) (h := ?_)
                case h2a => (go_simp; try with_reducible rfl)
                case b2a => (simp only [Act.put, List.setIfInBounds_toArray, List.set_cons_zero, List.set_cons_succ]; rfl)
                refine Rg.op 3 (some 92) hS (v := ?v3a) (a' := ?a3a) (hy := fun wz hwz => ?h3a) (ha := ?b3a) (h := ?_)
                case h3a => (go_simp; try with_reducible rfl)
                case b3a => (simp only [Act.put, List.setIfInBounds_toArray, List.set_cons_zero, List.set_cons_succ]; rfl)
                refine Rg.op 4 (some 93) hS (v := ?v4a) (a' := ?a4a) (hy := fun wz hwz => ?h4a) (ha := ?b4a) (h := ?_)
                case h4a => (have cc := (hwz.cell (p := ⟨ga, oa + (xn + 2 * k), none⟩) hgw (Nat.not_le_of_lt hgl)).trans HC0.out; have hpp := Nat.lt_of_lt_of_le hgw hwz.size; go_simp; try with_reducible rfl)
                case b4a => (simp only [Act.put, List.setIfInBounds_toArray, List.set_cons_zero, List.set_cons_succ]; rfl)
                refine Rg.op 5 (some 94) hS (v := ?v5a) (a' := ?a5a) (hy := fun wz hwz => ?h5a) (ha := ?b5a) (h := ?_)
                case h5a => (go_simp; try with_reducible rfl)
                case b5a => (simp only [Act.put, List.setIfInBounds_toArray, List.set_cons_zero, List.set_cons_succ]; rfl)
                refine Rg.op 6 (some 95) hS (v := ?v6a) (a' := ?a6a) (hy := fun wz hwz => ?h6a) (ha := ?b6a) (h := ?_)
                case h6a => (go_simp; try with_reducible rfl)
                case b6a => (simp only [Act.put, List.setIfInBounds_toArray, List.set_cons_zero, List.set_cons_succ]; rfl)
                refine Rg.op 7 (some 96) hS (v := ?v7a) (a' := ?a7a) (hy := fun wz hwz => ?h7a) (ha := ?b7a) (h := ?_)
                case h7a => (go_simp; try with_reducible rfl)
                case b7a => (simp only [Act.put, List.setIfInBounds_toArray, List.set_cons_zero, List.set_cons_succ]; rfl)
                refine Rg.op 8 (some 97) hS (v := ?v8a) (a' := ?a8a) (hy := fun wz hwz => ?h8a) (ha := ?b8a) (h := ?_)
                case h8a => (go_simp; try with_reducible rfl)
                case b8a => (simp only [Act.put, List.setIfInBounds_toArray, List.set_cons_zero, List.set_cons_succ]; rfl)
                refine Rg.op 9 (some 98) hS (v := ?v9a) (a' := ?a9a) (hy := fun wz hwz => ?h9a) (ha := ?b9a) (h := ?_)
                case h9a => (have cc := (hwz.cell (p := ⟨ga, oa + (xn + 2 * k + 1), none⟩) hgw (Nat.not_le_of_lt hgl)).trans HC1.out; have hpp := Nat.lt_of_lt_of_le hgw hwz.size; go_simp; try with_reducible rfl)
                case b9a => (simp only [Act.put, List.setIfInBounds_toArray, List.set_cons_zero, List.set_cons_succ]; rfl)
                refine Rg.op 10 (some 99) hS (v := ?v10a) (a' := ?a10a) (hy := fun wz hwz => ?h10a) (ha := ?b10a) (h := ?_)
                case h10a => (go_simp; try with_reducible rfl)
                case b10a => (simp only [Act.put, List.setIfInBounds_toArray, List.set_cons_zero, List.set_cons_succ]; rfl)
                have Sb : Fr (fun b => W3.heap.size ≤ b) wr (wr.drew.alloc (.cells #[.int .i64 x, .int .i64 y] 30)) := hS.alloc _
                refine Rg.run 11 (some 100) (v := (.slice (some ⟨wr.drew.heap.size, 0, none⟩) 1 1)) (a' := ?a11a) (w' := ((wr.drew.alloc (.cells #[.int .i64 x, .int .i64 y] 30)))) (hrun := ?h11a) (ha := ?b11a) (hS := (fun _ => Sb)) (h := ?_)
                case h11a => (go_simp; try with_reducible rfl)
                case b11a => (simp only [Act.put, List.setIfInBounds_toArray, List.set_cons_zero, List.set_cons_succ]; rfl)
                have hOb : (wr.drew.alloc (.cells #[.int .i64 x, .int .i64 y] 30)).ownsRow W3.heap.size 30 2 u12 k (pcs ps) := own_fr ho.out (((Fr.refl Nob wr).drew).alloc _) (fun _ _ h => h)
                have hnw : ∀ j u, [Value.int .i64 x, .int .i64 y][j]? = some u → (wr.drew.alloc (.cells #[.int .i64 x, .int .i64 y] 30)).cell? ((⟨wr.drew.heap.size, 0, none⟩ : Addr).add j) = some u := by
                  intro j u hu
                  rw [addr_add, Nat.zero_add, (Blk.new wr.drew 30 #[.int .i64 x, .int .i64 y]).cell, List.getElem?_toArray]
                  exact hu
                obtain ⟨v7, w7, hr7, hown7, hg7, _, _⟩ := run_append_own_at (P := Tryd.prog) (wr.drew.alloc (.cells #[.int .i64 x, .int .i64 y] 30)) W3.heap.size 26 26 30 j0 (.agg #[.int .i64 0, .int .i64 0]) 2 16 Tryd.underlying26 hj0 jz0 jz1 jz2 rfl (by decide) u12 k (pcs ps) hOb ⟨wr.drew.heap.size, 0, none⟩ 1 1 [.int .i64 x, .int .i64 y] rfl hnw (by intro u hu; simp only [List.mem_cons, List.not_mem_nil, or_false] at hu; rcases hu with rfl | rfl <;> rfl) (by unfold maxLen; omega) (by omega) (by have := Sb.size; have := hF.out.size; omega)
                have HF7 : Hid (Fr Nob W3 w7) := (hF.out.trans (((Fr.refl Nob wr).drew).alloc _)).grown hg7 (fun r hr => .inl (hOb.lt r hr).1)
                have Sc : Fr (fun b => W3.heap.size ≤ b) wr w7 := Sb.grown hg7 (fun r hr => .inr (hOb.lt r hr).1)
                have HR7 := Lib.hid hr7
                have HO7 : Hid (w7.ownsRow W3.heap.size 30 2 v7 (k + 1) (pcs (ps ++ [(x, y)]))) := by rw [pcs_snoc]; exact hown7
                clear hr7 hown7 hg7 hnw hOb
                refine Rg.run 12 (some 101) (v := (v7)) (a' := ?a12a) (w' := (w7)) (hrun := ?h12a) (ha := ?b12a) (hS := (fun _ => Sc)) (h := ?_)
                case h12a => exact run_opAppend (.tmp 89) (.tmp 100) 26 26 u12 (.slice (some ⟨wr.drew.heap.size, 0, none⟩) 1 1) rfl rfl rfl rfl HR7.out
                case b12a => (simp only [Act.put, List.setIfInBounds_toArray, List.set_cons_zero, List.set_cons_succ]; rfl)
                refine Rg.op 13 (some 12) Sc (v := ?v13a) (a' := ?a13a) (hy := fun wz hwz => ?h13a) (ha := ?b13a) (h := ?_)
                case h13a => (go_simp; try with_reducible rfl)
                case b13a => (simp only [Act.put, List.setIfInBounds_toArray, List.set_cons_zero, List.set_cons_succ]; rfl)
                refine Rg.done _ (h := ?_)
                rw [← HSt.out] at HO7
                clear Sb Sc hS
                go_wp2
                go_roundw
                case rel => exact ⟨k + 1, by omega, congrArg (Value.int .i64) (by omega), HO7, HF7⟩
                case measure => simp [intOf]; omega
              · obtain rfl : k = M := by omega
                have hkm := HKM.out
                have hkmi := HKMi.out
                have he : l2.take (2 * k) = l2 := List.take_of_length_le (by rw [HL2n.out]; exact Nat.le_refl _)
                rw [he] at ho
                obtain ⟨Bl, cB, rfl, hncB, hIp, hba⟩ := ptsIn_row ho.out HPl.out.symm
                have HBa := Lib.hid hba
                have HPts := Lib.hid hIp
                have k1 : ¬ ((xn : Int) + 2 * (k : Int)) < (K : Int) := by omega
                clear hIp he ho hba hkm hkmi
                obtain ⟨W5, hW5⟩ : ∃ W5, W5 = wr := ⟨_, rfl⟩
                subst hW5
                have hff := HFFm.out.fr hF.out (fun h => h)
                have y0 := hff.cell 0
                have y1 := hff.cell 1
                have y2 := hff.cell 2
                have y3 := hff.cell 3
                have y4 := hff.cell 4
                have y5 := hff.cell 5
                have hfz5 := hff.lt
                have hbz := HBw.out.fr hF.out (fun h => h)
                have hbz5 := hbz.lt
                have HBz := Lib.hid hbz
                have hne1 : ¬ w2.heap.size = W5.heap.size := by omega
                have hne2 : ¬ B = W5.heap.size := by omega
                simp only [List.getElem?_toArray, List.getElem?_cons_zero, List.getElem?_cons_succ] at y0 y1 y2 y3 y4 y5
                have e0 := hbz.cell 0
                have fe0 := hbz.frozen 0
                have e1 := hbz.cell 1
                have fe1 := hbz.frozen 1
                have e2 := hbz.cell 2
                have fe2 := hbz.frozen 2
                have e3 := hbz.cell 3
                have fe3 := hbz.frozen 3
                have e4 := hbz.cell 4
                have fe4 := hbz.frozen 4
                have e5 := hbz.cell 5
                have fe5 := hbz.frozen 5
                have e6 := hbz.cell 6
                have fe6 := hbz.frozen 6
                have e7 := hbz.cell 7
                have fe7 := hbz.frozen 7
                have e8 := hbz.cell 8
                have fe8 := hbz.frozen 8
                have e9 := hbz.cell 9
                have fe9 := hbz.frozen 9
                have e10 := hbz.cell 10
                have fe10 := hbz.frozen 10
                simp only [List.getElem?_toArray, List.getElem?_cons_zero, List.getElem?_cons_succ] at e0 e1 e2 e3 e4 e5 e6 e7 e8 e9 e10
                have HF5 := Lib.hid (HFw.out.trans hF.out)
                have hnA : ∀ i, i < K → ∃ ga oa z, A = some ⟨ga, oa, none⟩ ∧ ns.getD i 0 = z ∧ ga < W5.heap.size ∧ W5.cell? ⟨ga, oa + i, none⟩ = some (.int .i64 z) := by
                  intro i hi
                  obtain ⟨ga, oa, rfl, hc⟩ := HI.out (by rw [HK.out]; omega)
                  have hil : i < ns.length := by rw [HK.out]; exact hi
                  have c0 := hc i _ (List.getElem?_eq_getElem hil)
                  rw [← hF.out.cell (cell_lt c0) (fun h => h)] at c0
                  exact ⟨ga, oa, ns[i], rfl, by simp [List.getD, List.getElem?_eq_getElem hil], cell_lt c0, c0⟩
                have HnA := Lib.hid hnA
                have HPm : Hid (P = ((⟨wd, kd, op, fr, xn, xp⟩ : Shp).made ns, 0)) := HP5
                clear hff hbz hF hnA
                obtain ⟨hK1, _⟩ := HKd.out
                by_cases hk1 : kd = 1
                · subst hk1
                  have HMd : Hid (P = (({ kind := 1, op := op, fresh := fr, a := if 0 < xn then ns.getD 0 0 else 0, b := if 1 < xn then ns.getD 1 0 else 0, line := prs l2 } : Cm), 0)) := by
                    show P = _
                    rw [HPm.out]
                    unfold Shp.made
                    rw [if_pos rfl]
                    dsimp only
                    rw [HL2.out]
                  clear hK1 HP5 HPm
                  have hx3 : xn = 0 ∨ xn = 1 ∨ xn = 2 := by omega
                  rcases hx3 with rfl | rfl | rfl
                  · go_wp2
                    have HE : Hid (Blk ((((((((((((W5.setCell ⟨B, 0, none⟩ (.int .i64 1)).setCell ⟨B, 1, none⟩ (.int .i64 op)).setCell ⟨B, 2, none⟩ (.int .i64 0)).setCell ⟨B, 3, none⟩ (.int .i64 0)).setCell ⟨B, 4, none⟩ (.bool fr)).setCell ⟨B, 5, none⟩ (.slice Bl k cB)).setCell ⟨B, 6, none⟩ (.int .i64 0)).setCell ⟨B, 7, none⟩ (.int .i64 0)).setCell ⟨B, 8, none⟩ (.int .i64 0)).setCell ⟨B, 9, none⟩ (.int .i64 0)).setCell ⟨B, 10, none⟩ (.int .i64 0)).alloc (.cells #[.int .i64 1, .int .i64 op, .int .i64 0, .int .i64 0, .bool fr, .slice Bl k cB, .int .i64 0, .int .i64 0, .int .i64 0, .int .i64 0, .int .i64 0] 32)) B 32 #[.int .i64 1, .int .i64 op, .int .i64 0, .int .i64 0, .bool fr, .slice Bl k cB, .int .i64 0, .int .i64 0, .int .i64 0, .int .i64 0, .int .i64 0]) := (blk_put11 HBz.out (.int .i64 1) (.int .i64 op) (.int .i64 0) (.int .i64 0) (.bool fr) (.slice Bl k cB) (.int .i64 0) (.int .i64 0) (.int .i64 0) (.int .i64 0) (.int .i64 0)).alloc _
                    have HFE : Hid (Fr (fun x => x = B) W5 ((((((((((((W5.setCell ⟨B, 0, none⟩ (.int .i64 1)).setCell ⟨B, 1, none⟩ (.int .i64 op)).setCell ⟨B, 2, none⟩ (.int .i64 0)).setCell ⟨B, 3, none⟩ (.int .i64 0)).setCell ⟨B, 4, none⟩ (.bool fr)).setCell ⟨B, 5, none⟩ (.slice Bl k cB)).setCell ⟨B, 6, none⟩ (.int .i64 0)).setCell ⟨B, 7, none⟩ (.int .i64 0)).setCell ⟨B, 8, none⟩ (.int .i64 0)).setCell ⟨B, 9, none⟩ (.int .i64 0)).setCell ⟨B, 10, none⟩ (.int .i64 0)).alloc (.cells #[.int .i64 1, .int .i64 op, .int .i64 0, .int .i64 0, .bool fr, .slice Bl k cB, .int .i64 0, .int .i64 0, .int .i64 0, .int .i64 0, .int .i64 0] 32))) := ((fr_set1 (fr_set1 (fr_set1 (fr_set1 (fr_set1 (fr_set1 (fr_set1 (fr_set1 (fr_set1 (fr_set1 (fr_set1 (Fr.refl (fun x => x = B) W5) B 0 rfl (.int .i64 1)) B 1 rfl (.int .i64 op)) B 2 rfl (.int .i64 0)) B 3 rfl (.int .i64 0)) B 4 rfl (.bool fr)) B 5 rfl (.slice Bl k cB)) B 6 rfl (.int .i64 0)) B 7 rfl (.int .i64 0)) B 8 rfl (.int .i64 0)) B 9 rfl (.int .i64 0)) B 10 rfl (.int .i64 0))).alloc _
                    refine rparse_end B HE.out rfl rfl rfl ?_ (by rw [HMd.out]) (Fr.step HF5.out HFE.out (fun i hi e => by have := HB.out; omega))
                    rw [HMd.out]
                    refine ⟨Bl, cB, by simp [Cm.v, HPl.out], by simp only [HPl.out]; exact hncB, fun h0 => ?_⟩
                    obtain ⟨gl, ol, rfl, hcl⟩ := HPts.out h0
                    have hge := HBa.out _ rfl
                    dsimp only at hge
                    exact ⟨gl, ol, rfl, fun j p hj => ⟨(HFE.out.cell (cell_lt (hcl j p hj).1) (by have := HBw.out.lt; dsimp only; omega)).trans (hcl j p hj).1, (HFE.out.cell (cell_lt (hcl j p hj).2) (by have := HBw.out.lt; dsimp only; omega)).trans (hcl j p hj).2⟩⟩
                  · obtain ⟨ga, oa, z0, rfl, hz0', hga, cz0⟩ := HnA.out 0 (by have := HKM.out; omega)
                    have hne3 : ¬ ga = W5.heap.size := by omega
                    have hK0 : (0 : Int) < (K : Int) := by have := HKMi.out; omega
                    rw [Nat.add_zero] at cz0
                    have HZ0 := Lib.hid hz0'
                    clear hz0'
                    go_wp2
                    have HE : Hid (Blk ((((((((((((W5.setCell ⟨B, 0, none⟩ (.int .i64 1)).setCell ⟨B, 1, none⟩ (.int .i64 op)).setCell ⟨B, 2, none⟩ (.int .i64 z0)).setCell ⟨B, 3, none⟩ (.int .i64 0)).setCell ⟨B, 4, none⟩ (.bool fr)).setCell ⟨B, 5, none⟩ (.slice Bl k cB)).setCell ⟨B, 6, none⟩ (.int .i64 0)).setCell ⟨B, 7, none⟩ (.int .i64 0)).setCell ⟨B, 8, none⟩ (.int .i64 0)).setCell ⟨B, 9, none⟩ (.int .i64 0)).setCell ⟨B, 10, none⟩ (.int .i64 0)).alloc (.cells #[.int .i64 1, .int .i64 op, .int .i64 z0, .int .i64 0, .bool fr, .slice Bl k cB, .int .i64 0, .int .i64 0, .int .i64 0, .int .i64 0, .int .i64 0] 32)) B 32 #[.int .i64 1, .int .i64 op, .int .i64 z0, .int .i64 0, .bool fr, .slice Bl k cB, .int .i64 0, .int .i64 0, .int .i64 0, .int .i64 0, .int .i64 0]) := (blk_put11 HBz.out (.int .i64 1) (.int .i64 op) (.int .i64 z0) (.int .i64 0) (.bool fr) (.slice Bl k cB) (.int .i64 0) (.int .i64 0) (.int .i64 0) (.int .i64 0) (.int .i64 0)).alloc _
                    have HFE : Hid (Fr (fun x => x = B) W5 ((((((((((((W5.setCell ⟨B, 0, none⟩ (.int .i64 1)).setCell ⟨B, 1, none⟩ (.int .i64 op)).setCell ⟨B, 2, none⟩ (.int .i64 z0)).setCell ⟨B, 3, none⟩ (.int .i64 0)).setCell ⟨B, 4, none⟩ (.bool fr)).setCell ⟨B, 5, none⟩ (.slice Bl k cB)).setCell ⟨B, 6, none⟩ (.int .i64 0)).setCell ⟨B, 7, none⟩ (.int .i64 0)).setCell ⟨B, 8, none⟩ (.int .i64 0)).setCell ⟨B, 9, none⟩ (.int .i64 0)).setCell ⟨B, 10, none⟩ (.int .i64 0)).alloc (.cells #[.int .i64 1, .int .i64 op, .int .i64 z0, .int .i64 0, .bool fr, .slice Bl k cB, .int .i64 0, .int .i64 0, .int .i64 0, .int .i64 0, .int .i64 0] 32))) := ((fr_set1 (fr_set1 (fr_set1 (fr_set1 (fr_set1 (fr_set1 (fr_set1 (fr_set1 (fr_set1 (fr_set1 (fr_set1 (Fr.refl (fun x => x = B) W5) B 0 rfl (.int .i64 1)) B 1 rfl (.int .i64 op)) B 2 rfl (.int .i64 z0)) B 3 rfl (.int .i64 0)) B 4 rfl (.bool fr)) B 5 rfl (.slice Bl k cB)) B 6 rfl (.int .i64 0)) B 7 rfl (.int .i64 0)) B 8 rfl (.int .i64 0)) B 9 rfl (.int .i64 0)) B 10 rfl (.int .i64 0))).alloc _
                    refine rparse_end B HE.out rfl rfl rfl ?_ (by rw [HMd.out]) (Fr.step HF5.out HFE.out (fun i hi e => by have := HB.out; omega))
                    rw [HMd.out]
                    rw [HZ0.out]
                    refine ⟨Bl, cB, by simp [Cm.v, HPl.out], by simp only [HPl.out]; exact hncB, fun h0 => ?_⟩
                    obtain ⟨gl, ol, rfl, hcl⟩ := HPts.out h0
                    have hge := HBa.out _ rfl
                    dsimp only at hge
                    exact ⟨gl, ol, rfl, fun j p hj => ⟨(HFE.out.cell (cell_lt (hcl j p hj).1) (by have := HBw.out.lt; dsimp only; omega)).trans (hcl j p hj).1, (HFE.out.cell (cell_lt (hcl j p hj).2) (by have := HBw.out.lt; dsimp only; omega)).trans (hcl j p hj).2⟩⟩
                  · obtain ⟨ga, oa, z0, rfl, hz0', hga, cz0⟩ := HnA.out 0 (by have := HKM.out; omega)
                    obtain ⟨ga', oa', z1, he', hz1', _, cz1⟩ := HnA.out 1 (by have := HKM.out; omega)
                    injection he' with he'
                    injection he' with he1 he2
                    subst he1 he2
                    have hne3 : ¬ ga = W5.heap.size := by omega
                    have hK0 : (0 : Int) < (K : Int) := by have := HKMi.out; omega
                    have hK1' : (1 : Int) < (K : Int) := by have := HKMi.out; omega
                    rw [Nat.add_zero] at cz0
                    have HZ0 := Lib.hid hz0'
                    have HZ1 := Lib.hid hz1'
                    clear hz0' hz1'
                    go_wp2
                    have HE : Hid (Blk ((((((((((((W5.setCell ⟨B, 0, none⟩ (.int .i64 1)).setCell ⟨B, 1, none⟩ (.int .i64 op)).setCell ⟨B, 2, none⟩ (.int .i64 z0)).setCell ⟨B, 3, none⟩ (.int .i64 z1)).setCell ⟨B, 4, none⟩ (.bool fr)).setCell ⟨B, 5, none⟩ (.slice Bl k cB)).setCell ⟨B, 6, none⟩ (.int .i64 0)).setCell ⟨B, 7, none⟩ (.int .i64 0)).setCell ⟨B, 8, none⟩ (.int .i64 0)).setCell ⟨B, 9, none⟩ (.int .i64 0)).setCell ⟨B, 10, none⟩ (.int .i64 0)).alloc (.cells #[.int .i64 1, .int .i64 op, .int .i64 z0, .int .i64 z1, .bool fr, .slice Bl k cB, .int .i64 0, .int .i64 0, .int .i64 0, .int .i64 0, .int .i64 0] 32)) B 32 #[.int .i64 1, .int .i64 op, .int .i64 z0, .int .i64 z1, .bool fr, .slice Bl k cB, .int .i64 0, .int .i64 0, .int .i64 0, .int .i64 0, .int .i64 0]) := (blk_put11 HBz.out (.int .i64 1) (.int .i64 op) (.int .i64 z0) (.int .i64 z1) (.bool fr) (.slice Bl k cB) (.int .i64 0) (.int .i64 0) (.int .i64 0) (.int .i64 0) (.int .i64 0)).alloc _
                    have HFE : Hid (Fr (fun x => x = B) W5 ((((((((((((W5.setCell ⟨B, 0, none⟩ (.int .i64 1)).setCell ⟨B, 1, none⟩ (.int .i64 op)).setCell ⟨B, 2, none⟩ (.int .i64 z0)).setCell ⟨B, 3, none⟩ (.int .i64 z1)).setCell ⟨B, 4, none⟩ (.bool fr)).setCell ⟨B, 5, none⟩ (.slice Bl k cB)).setCell ⟨B, 6, none⟩ (.int .i64 0)).setCell ⟨B, 7, none⟩ (.int .i64 0)).setCell ⟨B, 8, none⟩ (.int .i64 0)).setCell ⟨B, 9, none⟩ (.int .i64 0)).setCell ⟨B, 10, none⟩ (.int .i64 0)).alloc (.cells #[.int .i64 1, .int .i64 op, .int .i64 z0, .int .i64 z1, .bool fr, .slice Bl k cB, .int .i64 0, .int .i64 0, .int .i64 0, .int .i64 0, .int .i64 0] 32))) := ((fr_set1 (fr_set1 (fr_set1 (fr_set1 (fr_set1 (fr_set1 (fr_set1 (fr_set1 (fr_set1 (fr_set1 (fr_set1 (Fr.refl (fun x => x = B) W5) B 0 rfl (.int .i64 1)) B 1 rfl (.int .i64 op)) B 2 rfl (.int .i64 z0)) B 3 rfl (.int .i64 z1)) B 4 rfl (.bool fr)) B 5 rfl (.slice Bl k cB)) B 6 rfl (.int .i64 0)) B 7 rfl (.int .i64 0)) B 8 rfl (.int .i64 0)) B 9 rfl (.int .i64 0)) B 10 rfl (.int .i64 0))).alloc _
                    refine rparse_end B HE.out rfl rfl rfl ?_ (by rw [HMd.out]) (Fr.step HF5.out HFE.out (fun i hi e => by have := HB.out; omega))
                    rw [HMd.out]
                    rw [HZ0.out, HZ1.out]
                    refine ⟨Bl, cB, by simp [Cm.v, HPl.out], by simp only [HPl.out]; exact hncB, fun h0 => ?_⟩
                    obtain ⟨gl, ol, rfl, hcl⟩ := HPts.out h0
                    have hge := HBa.out _ rfl
                    dsimp only at hge
                    exact ⟨gl, ol, rfl, fun j p hj => ⟨(HFE.out.cell (cell_lt (hcl j p hj).1) (by have := HBw.out.lt; dsimp only; omega)).trans (hcl j p hj).1, (HFE.out.cell (cell_lt (hcl j p hj).2) (by have := HBw.out.lt; dsimp only; omega)).trans (hcl j p hj).2⟩⟩
                · have hkb : (kd == 1) = false := by simpa using hk1
                  have HMd : Hid (P = (({ kind := kd, n := if 0 < xn then ns.getD 0 0 else 0, p := (prs l2).getD 0 (0, 0), q := (prs l2).getD 1 (0, 0) } : Cm), 0)) := by
                    show P = _
                    rw [HPm.out]
                    unfold Shp.made
                    rw [if_neg hk1]
                    dsimp only
                    rw [HL2.out]
                  have hnp : xn = 0 ∨ xp = 0 := tbl_np _ hxm hk1
                  have hxn1 : xn ≤ 1 := by rcases hK1 with h | h | h; exact absurd h.1 hk1; exact absurd h.1 hk1; exact h.2.1
                  have hxp2 : xp ≤ 2 := by rcases hK1 with h | h | h; exact absurd h.1 hk1; exact absurd h.1 hk1; exact h.2.2
                  have hlo : lo = xp := by rw [← HLo.out]; unfold Shp.lo; dsimp only; rw [if_neg (by omega)]
                  have hhi : hi = xp := by rw [← HHi.out]; unfold Shp.hi; dsimp only; rw [if_neg (by omega)]
                  have hkx : k = xp := by have := HKMi.out; omega
                  subst hlo hhi
                  subst hkx
                  clear hK1 HP5 HPm hk1 HLo HHi HKd
                  have hcase : (xn = 1 ∧ k = 0) ∨ (xn = 0 ∧ k = 0) ∨ (xn = 0 ∧ k = 1) ∨ (xn = 0 ∧ k = 2) := by omega
                  have hpr := HPl.out
                  rcases hcase with ⟨rfl, rfl⟩ | ⟨rfl, rfl⟩ | ⟨rfl, rfl⟩ | ⟨rfl, rfl⟩
                  · obtain ⟨ga, oa, z0, rfl, hz0', hga, cz0⟩ := HnA.out 0 (by have := HKM.out; omega)
                    have hne3 : ¬ ga = W5.heap.size := by omega
                    have hK0 : (0 : Int) < (K : Int) := by have := HKMi.out; omega
                    rw [Nat.add_zero] at cz0
                    have HZ0 := Lib.hid hz0'
                    have hpe := Lib.hid (List.eq_nil_of_length_eq_zero hpr)
                    clear hz0' hpr
                    go_wp2
                    have HE : Hid (Blk ((((((((((((W5.setCell ⟨B, 0, none⟩ (.int .i64 kd)).setCell ⟨B, 1, none⟩ (.int .i64 0)).setCell ⟨B, 2, none⟩ (.int .i64 0)).setCell ⟨B, 3, none⟩ (.int .i64 0)).setCell ⟨B, 4, none⟩ (.bool false)).setCell ⟨B, 5, none⟩ (.slice none 0 0)).setCell ⟨B, 6, none⟩ (.int .i64 0)).setCell ⟨B, 7, none⟩ (.int .i64 0)).setCell ⟨B, 8, none⟩ (.int .i64 0)).setCell ⟨B, 9, none⟩ (.int .i64 0)).setCell ⟨B, 10, none⟩ (.int .i64 z0)).alloc (.cells #[.int .i64 kd, .int .i64 0, .int .i64 0, .int .i64 0, .bool false, .slice none 0 0, .int .i64 0, .int .i64 0, .int .i64 0, .int .i64 0, .int .i64 z0] 32)) B 32 #[.int .i64 kd, .int .i64 0, .int .i64 0, .int .i64 0, .bool false, .slice none 0 0, .int .i64 0, .int .i64 0, .int .i64 0, .int .i64 0, .int .i64 z0]) := (blk_put11 HBz.out (.int .i64 kd) (.int .i64 0) (.int .i64 0) (.int .i64 0) (.bool false) (.slice none 0 0) (.int .i64 0) (.int .i64 0) (.int .i64 0) (.int .i64 0) (.int .i64 z0)).alloc _
                    have HFE : Hid (Fr (fun x => x = B) W5 ((((((((((((W5.setCell ⟨B, 0, none⟩ (.int .i64 kd)).setCell ⟨B, 1, none⟩ (.int .i64 0)).setCell ⟨B, 2, none⟩ (.int .i64 0)).setCell ⟨B, 3, none⟩ (.int .i64 0)).setCell ⟨B, 4, none⟩ (.bool false)).setCell ⟨B, 5, none⟩ (.slice none 0 0)).setCell ⟨B, 6, none⟩ (.int .i64 0)).setCell ⟨B, 7, none⟩ (.int .i64 0)).setCell ⟨B, 8, none⟩ (.int .i64 0)).setCell ⟨B, 9, none⟩ (.int .i64 0)).setCell ⟨B, 10, none⟩ (.int .i64 z0)).alloc (.cells #[.int .i64 kd, .int .i64 0, .int .i64 0, .int .i64 0, .bool false, .slice none 0 0, .int .i64 0, .int .i64 0, .int .i64 0, .int .i64 0, .int .i64 z0] 32))) := ((fr_set1 (fr_set1 (fr_set1 (fr_set1 (fr_set1 (fr_set1 (fr_set1 (fr_set1 (fr_set1 (fr_set1 (fr_set1 (Fr.refl (fun x => x = B) W5) B 0 rfl (.int .i64 kd)) B 1 rfl (.int .i64 0)) B 2 rfl (.int .i64 0)) B 3 rfl (.int .i64 0)) B 4 rfl (.bool false)) B 5 rfl (.slice none 0 0)) B 6 rfl (.int .i64 0)) B 7 rfl (.int .i64 0)) B 8 rfl (.int .i64 0)) B 9 rfl (.int .i64 0)) B 10 rfl (.int .i64 z0))).alloc _
                    refine rparse_end B HE.out rfl rfl rfl ?_ (by rw [HMd.out]) (Fr.step HF5.out HFE.out (fun i hi e => by have := HB.out; omega))
                    rw [HMd.out]
                    rw [HZ0.out, hpe.out]
                    exact ⟨none, 0, rfl, Nat.le_refl _, fun h => absurd h (by simp)⟩
                  · have hpe := Lib.hid (List.eq_nil_of_length_eq_zero hpr)
                    clear hpr
                    go_wp2
                    have HE : Hid (Blk ((((((((((((W5.setCell ⟨B, 0, none⟩ (.int .i64 kd)).setCell ⟨B, 1, none⟩ (.int .i64 0)).setCell ⟨B, 2, none⟩ (.int .i64 0)).setCell ⟨B, 3, none⟩ (.int .i64 0)).setCell ⟨B, 4, none⟩ (.bool false)).setCell ⟨B, 5, none⟩ (.slice none 0 0)).setCell ⟨B, 6, none⟩ (.int .i64 0)).setCell ⟨B, 7, none⟩ (.int .i64 0)).setCell ⟨B, 8, none⟩ (.int .i64 0)).setCell ⟨B, 9, none⟩ (.int .i64 0)).setCell ⟨B, 10, none⟩ (.int .i64 0)).alloc (.cells #[.int .i64 kd, .int .i64 0, .int .i64 0, .int .i64 0, .bool false, .slice none 0 0, .int .i64 0, .int .i64 0, .int .i64 0, .int .i64 0, .int .i64 0] 32)) B 32 #[.int .i64 kd, .int .i64 0, .int .i64 0, .int .i64 0, .bool false, .slice none 0 0, .int .i64 0, .int .i64 0, .int .i64 0, .int .i64 0, .int .i64 0]) := (blk_put11 HBz.out (.int .i64 kd) (.int .i64 0) (.int .i64 0) (.int .i64 0) (.bool false) (.slice none 0 0) (.int .i64 0) (.int .i64 0) (.int .i64 0) (.int .i64 0) (.int .i64 0)).alloc _
                    have HFE : Hid (Fr (fun x => x = B) W5 ((((((((((((W5.setCell ⟨B, 0, none⟩ (.int .i64 kd)).setCell ⟨B, 1, none⟩ (.int .i64 0)).setCell ⟨B, 2, none⟩ (.int .i64 0)).setCell ⟨B, 3, none⟩ (.int .i64 0)).setCell ⟨B, 4, none⟩ (.bool false)).setCell ⟨B, 5, none⟩ (.slice none 0 0)).setCell ⟨B, 6, none⟩ (.int .i64 0)).setCell ⟨B, 7, none⟩ (.int .i64 0)).setCell ⟨B, 8, none⟩ (.int .i64 0)).setCell ⟨B, 9, none⟩ (.int .i64 0)).setCell ⟨B, 10, none⟩ (.int .i64 0)).alloc (.cells #[.int .i64 kd, .int .i64 0, .int .i64 0, .int .i64 0, .bool false, .slice none 0 0, .int .i64 0, .int .i64 0, .int .i64 0, .int .i64 0, .int .i64 0] 32))) := ((fr_set1 (fr_set1 (fr_set1 (fr_set1 (fr_set1 (fr_set1 (fr_set1 (fr_set1 (fr_set1 (fr_set1 (fr_set1 (Fr.refl (fun x => x = B) W5) B 0 rfl (.int .i64 kd)) B 1 rfl (.int .i64 0)) B 2 rfl (.int .i64 0)) B 3 rfl (.int .i64 0)) B 4 rfl (.bool false)) B 5 rfl (.slice none 0 0)) B 6 rfl (.int .i64 0)) B 7 rfl (.int .i64 0)) B 8 rfl (.int .i64 0)) B 9 rfl (.int .i64 0)) B 10 rfl (.int .i64 0))).alloc _
                    refine rparse_end B HE.out rfl rfl rfl ?_ (by rw [HMd.out]) (Fr.step HF5.out HFE.out (fun i hi e => by have := HB.out; omega))
                    rw [HMd.out]
                    rw [hpe.out]
                    exact ⟨none, 0, rfl, Nat.le_refl _, fun h => absurd h (by simp)⟩
                  · obtain ⟨⟨p1, p2⟩, hpe⟩ : ∃ p, prs l2 = [p] := by
                      cases h : prs l2 with
                      | nil => rw [h] at hpr; simp at hpr
                      | cons a t => rw [h] at hpr; simp at hpr; exact ⟨a, by rw [hpr]⟩
                    have hpt := HPts.out
                    rw [hpe] at hpt
                    obtain ⟨gl, ol, rfl, hcl⟩ := hpt (by simp)
                    obtain ⟨cl0, cl1⟩ := hcl 0 (p1, p2) rfl
                    rw [Nat.zero_mul, Nat.add_zero] at cl0 cl1
                    have hglz := cell_lt cl0
                    dsimp only at cl0 cl1 hglz
                    have hne3 : ¬ gl = W5.heap.size := by omega
                    have Hpe := Lib.hid hpe
                    clear hpr hpt hcl hpe
                    go_wp2
                    have HE : Hid (Blk ((((((((((((W5.setCell ⟨B, 0, none⟩ (.int .i64 kd)).setCell ⟨B, 1, none⟩ (.int .i64 0)).setCell ⟨B, 2, none⟩ (.int .i64 0)).setCell ⟨B, 3, none⟩ (.int .i64 0)).setCell ⟨B, 4, none⟩ (.bool false)).setCell ⟨B, 5, none⟩ (.slice none 0 0)).setCell ⟨B, 6, none⟩ (.int .i64 p1)).setCell ⟨B, 7, none⟩ (.int .i64 p2)).setCell ⟨B, 8, none⟩ (.int .i64 0)).setCell ⟨B, 9, none⟩ (.int .i64 0)).setCell ⟨B, 10, none⟩ (.int .i64 0)).alloc (.cells #[.int .i64 kd, .int .i64 0, .int .i64 0, .int .i64 0, .bool false, .slice none 0 0, .int .i64 p1, .int .i64 p2, .int .i64 0, .int .i64 0, .int .i64 0] 32)) B 32 #[.int .i64 kd, .int .i64 0, .int .i64 0, .int .i64 0, .bool false, .slice none 0 0, .int .i64 p1, .int .i64 p2, .int .i64 0, .int .i64 0, .int .i64 0]) := (blk_put11 HBz.out (.int .i64 kd) (.int .i64 0) (.int .i64 0) (.int .i64 0) (.bool false) (.slice none 0 0) (.int .i64 p1) (.int .i64 p2) (.int .i64 0) (.int .i64 0) (.int .i64 0)).alloc _
                    have HFE : Hid (Fr (fun x => x = B) W5 ((((((((((((W5.setCell ⟨B, 0, none⟩ (.int .i64 kd)).setCell ⟨B, 1, none⟩ (.int .i64 0)).setCell ⟨B, 2, none⟩ (.int .i64 0)).setCell ⟨B, 3, none⟩ (.int .i64 0)).setCell ⟨B, 4, none⟩ (.bool false)).setCell ⟨B, 5, none⟩ (.slice none 0 0)).setCell ⟨B, 6, none⟩ (.int .i64 p1)).setCell ⟨B, 7, none⟩ (.int .i64 p2)).setCell ⟨B, 8, none⟩ (.int .i64 0)).setCell ⟨B, 9, none⟩ (.int .i64 0)).setCell ⟨B, 10, none⟩ (.int .i64 0)).alloc (.cells #[.int .i64 kd, .int .i64 0, .int .i64 0, .int .i64 0, .bool false, .slice none 0 0, .int .i64 p1, .int .i64 p2, .int .i64 0, .int .i64 0, .int .i64 0] 32))) := ((fr_set1 (fr_set1 (fr_set1 (fr_set1 (fr_set1 (fr_set1 (fr_set1 (fr_set1 (fr_set1 (fr_set1 (fr_set1 (Fr.refl (fun x => x = B) W5) B 0 rfl (.int .i64 kd)) B 1 rfl (.int .i64 0)) B 2 rfl (.int .i64 0)) B 3 rfl (.int .i64 0)) B 4 rfl (.bool false)) B 5 rfl (.slice none 0 0)) B 6 rfl (.int .i64 p1)) B 7 rfl (.int .i64 p2)) B 8 rfl (.int .i64 0)) B 9 rfl (.int .i64 0)) B 10 rfl (.int .i64 0))).alloc _
                    refine rparse_end B HE.out rfl rfl rfl ?_ (by rw [HMd.out]) (Fr.step HF5.out HFE.out (fun i hi e => by have := HB.out; omega))
                    rw [HMd.out]
                    rw [Hpe.out]
                    exact ⟨none, 0, rfl, Nat.le_refl _, fun h => absurd h (by simp)⟩
                  · obtain ⟨⟨p1, p2⟩, ⟨q1, q2⟩, hpe⟩ : ∃ p q, prs l2 = [p, q] := by
                      cases h : prs l2 with
                      | nil => rw [h] at hpr; simp at hpr
                      | cons a t =>
                        cases t with
                        | nil => rw [h] at hpr; simp at hpr
                        | cons b s => rw [h] at hpr; simp at hpr; exact ⟨a, b, by rw [hpr]⟩
                    have hpt := HPts.out
                    rw [hpe] at hpt
                    obtain ⟨gl, ol, rfl, hcl⟩ := hpt (by simp)
                    obtain ⟨cl0, cl1⟩ := hcl 0 (p1, p2) rfl
                    obtain ⟨cl2, cl3⟩ := hcl 1 (q1, q2) rfl
                    rw [Nat.zero_mul, Nat.add_zero] at cl0 cl1
                    rw [Nat.one_mul] at cl2 cl3
                    have hglz := cell_lt cl0
                    dsimp only at cl0 cl1 cl2 cl3 hglz
                    have hne3 : ¬ gl = W5.heap.size := by omega
                    have Hpe := Lib.hid hpe
                    clear hpr hpt hcl hpe
                    go_wp2
                    have hbC : Blk (W5.alloc (.cells #[.int .i64 kd, .int .i64 0, .int .i64 0, .int .i64 0, .bool false, .slice none 0 0, .int .i64 0, .int .i64 0, .int .i64 0, .int .i64 0, .int .i64 0] 32)) W5.heap.size 32 #[.int .i64 kd, .int .i64 0, .int .i64 0, .int .i64 0, .bool false, .slice none 0 0, .int .i64 0, .int .i64 0, .int .i64 0, .int .i64 0, .int .i64 0] := Blk.new W5 _ _
                    have hS : Fr (fun b => b = W5.heap.size) (W5.alloc (.cells #[.int .i64 kd, .int .i64 0, .int .i64 0, .int .i64 0, .bool false, .slice none 0 0, .int .i64 0, .int .i64 0, .int .i64 0, .int .i64 0, .int .i64 0] 32)) (W5.alloc (.cells #[.int .i64 kd, .int .i64 0, .int .i64 0, .int .i64 0, .bool false, .slice none 0 0, .int .i64 0, .int .i64 0, .int .i64 0, .int .i64 0, .int .i64 0] 32)).drew := (Fr.refl _ _).drew
                    have HL : Hid (∀ i v, W5.cell? ⟨gl, i, none⟩ = some v → ∀ V, Fr (fun b => b = W5.heap.size) (W5.alloc (.cells #[.int .i64 kd, .int .i64 0, .int .i64 0, .int .i64 0, .bool false, .slice none 0 0, .int .i64 0, .int .i64 0, .int .i64 0, .int .i64 0, .int .i64 0] 32)) V → V.cell? ⟨gl, i, none⟩ = some v ∧ gl < V.heap.size) := fun i v hv V hV => ⟨(hV.cell (p := ⟨gl, i, none⟩) (by rw [World.size_alloc]; dsimp only; omega) hne3).trans ((((Fr.refl Nob W5).alloc _).cell (p := ⟨gl, i, none⟩) hglz (fun h => h)).trans hv), by have := hV.size; rw [World.size_alloc] at this; omega⟩
                    refine Rg.begin' (Fr (fun b => b = W5.heap.size) (W5.alloc (.cells #[.int .i64 kd, .int .i64 0, .int .i64 0, .int .i64 0, .bool false, .slice none 0 0, .int .i64 0, .int .i64 0, .int .i64 0, .int .i64 0, .int .i64 0] 32))) [] (by kernel_rfl) ?_
                    refine Rg.op 0 (some 152) hS (v := ?v0r37) (a' := ?a0r37) (hy := fun wz hwz => ?h0r37) (ha := ?b0r37) (h := ?_)
                    case h0r37 => (go_simp; try with_reducible rfl)
                    case b0r37 => (simp only [Act.put, List.setIfInBounds_toArray, List.set_cons_zero, List.set_cons_succ]; rfl)
                    refine Rg.op 1 (some 153) hS (v := ?v1r37) (a' := ?a1r37) (hy := fun wz hwz => ?h1r37) (ha := ?b1r37) (h := ?_)
                    case h1r37 => (have hpp := (HL.out _ _ cl0 _ hwz).2; go_simp; try with_reducible rfl)
                    case b1r37 => (simp only [Act.put, List.setIfInBounds_toArray, List.set_cons_zero, List.set_cons_succ]; rfl)
                    refine Rg.op 2 (some 154) hS (v := (.agg #[.int .i64 p1, .int .i64 p2])) (a' := ?a2r37) (hy := fun wz hwz => ?h2r37) (ha := ?b2r37) (h := ?_)
                    case h2r37 => (have ca := (HL.out _ _ cl0 _ hwz).1; have cb := (HL.out _ _ cl1 _ hwz).1; have hpp := (HL.out _ _ cl0 _ hwz).2; go_simp; try with_reducible rfl)
                    case b2r37 => (simp only [Act.put, List.setIfInBounds_toArray, List.set_cons_zero, List.set_cons_succ]; rfl)
                    refine Rg.op 3 (some 155) hS (v := ?v3r37) (a' := ?a3r37) (hy := fun wz hwz => ?h3r37) (ha := ?b3r37) (h := ?_)
                    case h3r37 => (go_simp; try with_reducible rfl)
                    case b3r37 => (simp only [Act.put, List.setIfInBounds_toArray, List.set_cons_zero, List.set_cons_succ]; rfl)
                    refine Rg.op 4 (some 156) hS (v := ?v4r37) (a' := ?a4r37) (hy := fun wz hwz => ?h4r37) (ha := ?b4r37) (h := ?_)
                    case h4r37 => (have hpp := (HL.out _ _ cl0 _ hwz).2; go_simp; try with_reducible rfl)
                    case b4r37 => (simp only [Act.put, List.setIfInBounds_toArray, List.set_cons_zero, List.set_cons_succ]; rfl)
                    refine Rg.op 5 (some 157) hS (v := (.agg #[.int .i64 q1, .int .i64 q2])) (a' := ?a5r37) (hy := fun wz hwz => ?h5r37) (ha := ?b5r37) (h := ?_)
                    case h5r37 => (have ca := (HL.out _ _ cl2 _ hwz).1; have cb := (HL.out _ _ cl3 _ hwz).1; have hpp := (HL.out _ _ cl0 _ hwz).2; go_simp; try with_reducible rfl)
                    case b5r37 => (simp only [Act.put, List.setIfInBounds_toArray, List.set_cons_zero, List.set_cons_succ]; rfl)
                    refine Rg.op 6 (some 158) hS (v := ?v6r37) (a' := ?a6r37) (hy := fun wz hwz => ?h6r37) (ha := ?b6r37) (h := ?_)
                    case h6r37 => (have hpp := (show W5.heap.size < wz.heap.size by have := hwz.size; rw [World.size_alloc] at this; omega); go_simp; try with_reducible rfl)
                    case b6r37 => (simp only [Act.put, List.setIfInBounds_toArray, List.set_cons_zero, List.set_cons_succ]; rfl)
                    have hbd := hbC.drew
                    have d6 := hbd.cell 6
                    have d7 := hbd.cell 7
                    have fd6 := hbd.frozen 6
                    have fd7 := hbd.frozen 7
                    have hdz := hbd.lt
                    simp only [List.getElem?_toArray, List.getElem?_cons_zero, List.getElem?_cons_succ] at d6 d7
                    have hba' := (hbd.set_ 6 (.int .i64 p1)).set_ 7 (.int .i64 p2)
                    simp only [List.setIfInBounds_toArray, List.set_cons_zero, List.set_cons_succ] at hba'
                    have HBa' := Lib.hid hba'
                    have hSa : Fr (fun b => b = W5.heap.size) (W5.alloc (.cells #[.int .i64 kd, .int .i64 0, .int .i64 0, .int .i64 0, .bool false, .slice none 0 0, .int .i64 0, .int .i64 0, .int .i64 0, .int .i64 0, .int .i64 0] 32)) (((W5.alloc (.cells #[.int .i64 kd, .int .i64 0, .int .i64 0, .int .i64 0, .bool false, .slice none 0 0, .int .i64 0, .int .i64 0, .int .i64 0, .int .i64 0, .int .i64 0] 32)).drew.setCell ⟨W5.heap.size, 6, none⟩ (.int .i64 p1)).setCell ⟨W5.heap.size, 7, none⟩ (.int .i64 p2)) := fr_set1 (fr_set1 hS W5.heap.size 6 rfl (.int .i64 p1)) W5.heap.size 7 rfl (.int .i64 p2)
                    clear hbd hba'
                    refine Rg.store 7 (w' := ((((W5.alloc (.cells #[.int .i64 kd, .int .i64 0, .int .i64 0, .int .i64 0, .bool false, .slice none 0 0, .int .i64 0, .int .i64 0, .int .i64 0, .int .i64 0, .int .i64 0] 32)).drew.setCell ⟨W5.heap.size, 6, none⟩ (.int .i64 p1)).setCell ⟨W5.heap.size, 7, none⟩ (.int .i64 p2)))) (hrun := ?h7r37) (hS := (fun _ => hSa)) (h := ?_)
                    case h7r37 => (go_simp; try with_reducible rfl)
                    clear d6 d7 fd6 fd7 hdz
                    refine Rg.op 8 (some 159) hSa (v := ?v8r37) (a' := ?a8r37) (hy := fun wz hwz => ?h8r37) (ha := ?b8r37) (h := ?_)
                    case h8r37 => (have hpp := (show W5.heap.size < wz.heap.size by have := hwz.size; rw [World.size_alloc] at this; omega); go_simp; try with_reducible rfl)
                    case b8r37 => (simp only [Act.put, List.setIfInBounds_toArray, List.set_cons_zero, List.set_cons_succ]; rfl)
                    have d8 := HBa'.out.cell 8
                    have d9 := HBa'.out.cell 9
                    have fd8 := HBa'.out.frozen 8
                    have fd9 := HBa'.out.frozen 9
                    have hdz := HBa'.out.lt
                    simp only [List.getElem?_toArray, List.getElem?_cons_zero, List.getElem?_cons_succ] at d8 d9
                    have hbb' := (HBa'.out.set_ 8 (.int .i64 q1)).set_ 9 (.int .i64 q2)
                    simp only [List.setIfInBounds_toArray, List.set_cons_zero, List.set_cons_succ] at hbb'
                    have HBb' := Lib.hid hbb'
                    have hSb : Fr (fun b => b = W5.heap.size) (W5.alloc (.cells #[.int .i64 kd, .int .i64 0, .int .i64 0, .int .i64 0, .bool false, .slice none 0 0, .int .i64 0, .int .i64 0, .int .i64 0, .int .i64 0, .int .i64 0] 32)) (((((W5.alloc (.cells #[.int .i64 kd, .int .i64 0, .int .i64 0, .int .i64 0, .bool false, .slice none 0 0, .int .i64 0, .int .i64 0, .int .i64 0, .int .i64 0, .int .i64 0] 32)).drew.setCell ⟨W5.heap.size, 6, none⟩ (.int .i64 p1)).setCell ⟨W5.heap.size, 7, none⟩ (.int .i64 p2)).setCell ⟨W5.heap.size, 8, none⟩ (.int .i64 q1)).setCell ⟨W5.heap.size, 9, none⟩ (.int .i64 q2)) := fr_set1 (fr_set1 hSa W5.heap.size 8 rfl (.int .i64 q1)) W5.heap.size 9 rfl (.int .i64 q2)
                    clear hbb'
                    refine Rg.store 9 (w' := ((((((W5.alloc (.cells #[.int .i64 kd, .int .i64 0, .int .i64 0, .int .i64 0, .bool false, .slice none 0 0, .int .i64 0, .int .i64 0, .int .i64 0, .int .i64 0, .int .i64 0] 32)).drew.setCell ⟨W5.heap.size, 6, none⟩ (.int .i64 p1)).setCell ⟨W5.heap.size, 7, none⟩ (.int .i64 p2)).setCell ⟨W5.heap.size, 8, none⟩ (.int .i64 q1)).setCell ⟨W5.heap.size, 9, none⟩ (.int .i64 q2)))) (hrun := ?h9r37) (hS := (fun _ => hSb)) (h := ?_)
                    case h9r37 => (go_simp; try with_reducible rfl)
                    clear d8 d9 fd8 fd9 hdz
                    refine Rg.done _ (h := ?_)
                    obtain ⟨V6, hV6⟩ : ∃ V6, (((((W5.alloc (.cells #[.int .i64 kd, .int .i64 0, .int .i64 0, .int .i64 0, .bool false, .slice none 0 0, .int .i64 0, .int .i64 0, .int .i64 0, .int .i64 0, .int .i64 0] 32)).drew.setCell ⟨W5.heap.size, 6, none⟩ (.int .i64 p1)).setCell ⟨W5.heap.size, 7, none⟩ (.int .i64 p2)).setCell ⟨W5.heap.size, 8, none⟩ (.int .i64 q1)).setCell ⟨W5.heap.size, 9, none⟩ (.int .i64 q2)) = V6 := ⟨_, rfl⟩
                    rw [hV6] at HBb' hSb ⊢
                    have HSb := Lib.hid hSb
                    have hbz6 := (HBz.out.alloc (.cells #[.int .i64 kd, .int .i64 0, .int .i64 0, .int .i64 0, .bool false, .slice none 0 0, .int .i64 0, .int .i64 0, .int .i64 0, .int .i64 0, .int .i64 0] 32)).fr hSb hne2
                    have HBz6 := Lib.hid hbz6
                    have e0 := hbz6.cell 0
                    have e1 := hbz6.cell 1
                    have e2 := hbz6.cell 2
                    have e3 := hbz6.cell 3
                    have e4 := hbz6.cell 4
                    have e5 := hbz6.cell 5
                    have e6 := hbz6.cell 6
                    have e7 := hbz6.cell 7
                    have e8 := hbz6.cell 8
                    have e9 := hbz6.cell 9
                    have e10 := hbz6.cell 10
                    have fe0 := hbz6.frozen 0
                    have fe1 := hbz6.frozen 1
                    have fe2 := hbz6.frozen 2
                    have fe3 := hbz6.frozen 3
                    have fe4 := hbz6.frozen 4
                    have fe5 := hbz6.frozen 5
                    have fe6 := hbz6.frozen 6
                    have fe7 := hbz6.frozen 7
                    have fe8 := hbz6.frozen 8
                    have fe9 := hbz6.frozen 9
                    have fe10 := hbz6.frozen 10
                    simp only [List.getElem?_toArray, List.getElem?_cons_zero, List.getElem?_cons_succ] at e0 e1 e2 e3 e4 e5 e6 e7 e8 e9 e10
                    have d0 := HBb'.out.cell 0
                    have d1 := HBb'.out.cell 1
                    have d2 := HBb'.out.cell 2
                    have d3 := HBb'.out.cell 3
                    have d4 := HBb'.out.cell 4
                    have d5 := HBb'.out.cell 5
                    have d6 := HBb'.out.cell 6
                    have d7 := HBb'.out.cell 7
                    have d8 := HBb'.out.cell 8
                    have d9 := HBb'.out.cell 9
                    have d10 := HBb'.out.cell 10
                    simp only [List.getElem?_toArray, List.getElem?_cons_zero, List.getElem?_cons_succ] at d0 d1 d2 d3 d4 d5 d6 d7 d8 d9 d10
                    have hz61 := hbz6.lt
                    have hz62 := HBb'.out.lt
                    clear hV6 hSb hSa hS HBa' hbz6 hbC
                    go_wp2
                    have HE : Hid (Blk (((((((((((V6.setCell ⟨B, 0, none⟩ (.int .i64 kd)).setCell ⟨B, 1, none⟩ (.int .i64 0)).setCell ⟨B, 2, none⟩ (.int .i64 0)).setCell ⟨B, 3, none⟩ (.int .i64 0)).setCell ⟨B, 4, none⟩ (.bool false)).setCell ⟨B, 5, none⟩ (.slice none 0 0)).setCell ⟨B, 6, none⟩ (.int .i64 p1)).setCell ⟨B, 7, none⟩ (.int .i64 p2)).setCell ⟨B, 8, none⟩ (.int .i64 q1)).setCell ⟨B, 9, none⟩ (.int .i64 q2)).setCell ⟨B, 10, none⟩ (.int .i64 0)) B 32 #[.int .i64 kd, .int .i64 0, .int .i64 0, .int .i64 0, .bool false, .slice none 0 0, .int .i64 p1, .int .i64 p2, .int .i64 q1, .int .i64 q2, .int .i64 0]) := blk_put11 HBz6.out (.int .i64 kd) (.int .i64 0) (.int .i64 0) (.int .i64 0) (.bool false) (.slice none 0 0) (.int .i64 p1) (.int .i64 p2) (.int .i64 q1) (.int .i64 q2) (.int .i64 0)
                    have HFE : Hid (Fr (fun x => x = B) V6 (((((((((((V6.setCell ⟨B, 0, none⟩ (.int .i64 kd)).setCell ⟨B, 1, none⟩ (.int .i64 0)).setCell ⟨B, 2, none⟩ (.int .i64 0)).setCell ⟨B, 3, none⟩ (.int .i64 0)).setCell ⟨B, 4, none⟩ (.bool false)).setCell ⟨B, 5, none⟩ (.slice none 0 0)).setCell ⟨B, 6, none⟩ (.int .i64 p1)).setCell ⟨B, 7, none⟩ (.int .i64 p2)).setCell ⟨B, 8, none⟩ (.int .i64 q1)).setCell ⟨B, 9, none⟩ (.int .i64 q2)).setCell ⟨B, 10, none⟩ (.int .i64 0))) := (fr_set1 (fr_set1 (fr_set1 (fr_set1 (fr_set1 (fr_set1 (fr_set1 (fr_set1 (fr_set1 (fr_set1 (fr_set1 (Fr.refl (fun x => x = B) V6) B 0 rfl (.int .i64 kd)) B 1 rfl (.int .i64 0)) B 2 rfl (.int .i64 0)) B 3 rfl (.int .i64 0)) B 4 rfl (.bool false)) B 5 rfl (.slice none 0 0)) B 6 rfl (.int .i64 p1)) B 7 rfl (.int .i64 p2)) B 8 rfl (.int .i64 q1)) B 9 rfl (.int .i64 q2)) B 10 rfl (.int .i64 0))
                    refine rparse_end B HE.out rfl rfl rfl ?_ (by rw [HMd.out]) (Fr.step (Fr.step (HF5.out.alloc (.cells #[.int .i64 kd, .int .i64 0, .int .i64 0, .int .i64 0, .bool false, .slice none 0 0, .int .i64 0, .int .i64 0, .int .i64 0, .int .i64 0, .int .i64 0] 32)) HSb.out (fun i hi e => by have := HF5.out.size; omega)) HFE.out (fun i hi e => by have := HB.out; omega))
                    rw [HMd.out, Hpe.out]
                    exact ⟨none, 0, rfl, Nat.le_refl _, fun h => absurd h (by simp)⟩
end Go.Proofs.YtidohbhcjnmmeaaDoor
