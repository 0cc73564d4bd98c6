/-
  Commands: points.
-/
import Derived.Test.YtidohbhcjnmmeaaDoorCmd1
import Derived.Test.YtidohbhcjnmmeaaDoorReg
namespace Go.Proofs.YtidohbhcjnmmeaaDoor
set_option linter.unusedSimpArgs false
set_option linter.unusedVariables false
open Go.RowKit

/-- Numbers two by two. -/
def prs : List Int → List (Int × Int)
  | a :: b :: r => (a, b) :: prs r
  | _ => []
theorem prs_append : ∀ (a b : List Int), a.length % 2 = 0 → prs (a ++ b) = prs a ++ prs b
  | [], b, _ => by simp [prs]
  | [_], _, h => by simp at h
  | x :: y :: r, b, h => by
    simp only [List.cons_append, prs]
    rw [prs_append r b (by simp at h; omega)]
theorem prs_length : ∀ (l : List Int), (prs l).length = l.length / 2
  | [] => rfl
  | [_] => by simp [prs]
  | x :: y :: r => by simp only [prs, List.length_cons, prs_length r]; omega
theorem prs_step {l : List Int} {k : Nat} (h : 2 * k + 1 < l.length) : prs (l.take (2 * (k + 1))) = prs (l.take (2 * k)) ++ [(l[2 * k], l[2 * k + 1])] := by
  have e : l.take (2 * (k + 1)) = l.take (2 * k) ++ [l[2 * k], l[2 * k + 1]] := by
    rw [show 2 * (k + 1) = (2 * k + 1) + 1 by omega, ← List.take_append_getElem h, ← List.take_append_getElem (by omega : 2 * k < l.length), List.append_assoc]
    rfl
  rw [e, prs_append _ _ (by rw [List.length_take]; omega)]
  rfl
theorem prs_end {l : List Int} {k : Nat} (h : ¬ 2 * k + 1 < l.length) (hk : 2 * k ≤ l.length) : prs l = prs (l.take (2 * k)) := by
  have e := prs_append (l.take (2 * k)) (l.drop (2 * k)) (by rw [List.length_take]; omega)
  rw [List.take_append_drop] at e
  rw [e]
  have : (l.drop (2 * k)).length ≤ 1 := by rw [List.length_drop]; omega
  have h0 : prs (l.drop (2 * k)) = [] := List.eq_nil_of_length_eq_zero (by rw [prs_length]; omega)
  rw [h0, List.append_nil]
def pcs (ps : List (Int × Int)) : List Value := ps.flatMap fun p => [.int .i64 p.1, .int .i64 p.2]
theorem pcs_snoc (ps : List (Int × Int)) (a b : Int) : pcs (ps ++ [(a, b)]) = pcs ps ++ [.int .i64 a, .int .i64 b] := by simp [pcs]
theorem pcs_get : ∀ (ps : List (Int × Int)) (j : Nat) (p : Int × Int), ps[j]? = some p → (pcs ps)[j * 2]? = some (.int .i64 p.1) ∧ (pcs ps)[j * 2 + 1]? = some (.int .i64 p.2)
  | [], j, p, h => by simp at h
  | q :: r, 0, p, h => by simp at h; subst h; simp [pcs]
  | q :: r, j + 1, p, h => by
    have := pcs_get r j p (by simpa using h)
    have e : pcs (q :: r) = .int .i64 q.1 :: .int .i64 q.2 :: pcs r := by simp [pcs]
    rw [e, show (j + 1) * 2 = j * 2 + 1 + 1 by omega, show j * 2 + 1 + 1 + 1 = (j * 2 + 1) + 1 + 1 by omega]
    simpa using this
theorem ptsIn_row {w : World} {base n : Nat} {v : Value} {l : List (Int × Int)} (h : w.ownsRow base 30 2 v n (pcs l)) (hn : n = l.length) : ∃ A c, v = .slice A n c ∧ n ≤ c ∧ PtsIn w A l ∧ ∀ a, A = some a → base ≤ a.block := by
  rcases h.2 with ⟨e, h1⟩ | ⟨g', cap', cur, e, h1, hh, h2, h3, h4, ht⟩
  · subst e
    exact ⟨none, 0, by rw [h1], by omega, fun h0 => by omega, fun a h => by cases h⟩
  · refine ⟨_, cap', e, by omega, fun h0 => ⟨g', 0, rfl, fun j p hp => ?_⟩, fun a h => by cases h; exact h1⟩
    obtain ⟨hb1, hb2⟩ := pcs_get l j p hp
    rw [← ht, List.getElem?_take] at hb1 hb2
    refine ⟨?_, ?_⟩
    · split at hb1
      · rw [Nat.zero_add, Blk.cell hh (j * 2), ← Array.getElem?_toList]; exact hb1
      · cases hb1
    · split at hb2
      · rw [Nat.zero_add, Blk.cell hh (j * 2 + 1), ← Array.getElem?_toList]; exact hb2
      · cases hb2
theorem addr_add (g o j : Nat) : (⟨g, o, none⟩ : Addr).add j = ⟨g, o + j, none⟩ := by simp [Addr.add]

set_option maxHeartbeats 1600000 in
set_option maxRecDepth 100000 in
theorem points_any (A : Option Addr) (cp : Nat) (l : List Int) (w : World) (h : I64In w A l) (hl : l.length ≤ 1000000) :
    Calls Tryd.prog 30 #[.slice A l.length cp] w fun e w' => ∃ B, e = .returned (.slice B (prs l).length (prs l).length) ∧ PtsIn w' B (prs l) ∧ (∀ a, B = some a → w.heap.size ≤ a.block) ∧ Fr Nob w w' := by
  obtain ⟨i0, hi0, hz0, hz1, hz2⟩ := info_parts' info_P'
  have qL := len_i64s
  have HIn := Lib.hid h
  obtain ⟨N, hN⟩ : ∃ N, l.length = N := ⟨_, rfl⟩
  have HNl := Lib.hid hN
  obtain ⟨M, hM⟩ : ∃ M, (prs l).length = M := ⟨_, rfl⟩
  have HM := Lib.hid hM
  have hMN : 2 * M ≤ N ∧ N ≤ 2 * M + 1 := by have := prs_length l; omega
  rw [hN] at hl ⊢
  rw [hM]
  clear h hN hM
  go_enter Tryd.func30, Tryd.ntmps30
  go_wp2
  go_loopw [3, 4] (fun v i wr => ∃ (k : Nat), k ≤ M ∧ i = .int .i64 (2 * (k : Int)) ∧ Hid (wr.ownsRow w.heap.size 30 2 v k (pcs (prs (l.take (2 * k))))) ∧ Hid (Fr Nob w wr)) (fun _ i _ => N - (intOf i).toNat)
  case atStart => exact ⟨0, Nat.zero_le _, rfl, by simp only [Nat.mul_zero, List.take_zero]; exact World.ownsRow_nil _ _ _ _, Fr.refl _ _⟩
  case round =>
    obtain ⟨k, hk, rfl, ho, hF⟩ := hrel
    by_cases hlt : 2 * k + 1 < N
    · have hlt' : 2 * k + 1 < l.length := by rw [HNl.out]; exact hlt
      obtain ⟨g, o, rfl, hc⟩ := HIn.out (by omega)
      have c0 := hc (2 * k) _ (List.getElem?_eq_getElem (by omega))
      have c1 := hc (2 * k + 1) _ (List.getElem?_eq_getElem hlt')
      have hgl := cell_lt c0
      rw [← hF.out.cell (cell_lt c0) (fun h => h)] at c0
      rw [← hF.out.cell (cell_lt c1) (fun h => h)] at c1
      have hst := prs_step hlt'
      obtain ⟨x, hx⟩ : ∃ x, l[2 * k] = x := ⟨_, rfl⟩
      obtain ⟨y, hy⟩ : ∃ y, l[2 * k + 1] = y := ⟨_, rfl⟩
      rw [hx, hy] at hst
      rw [hx] at c0
      rw [hy] at c1
      have hgw : g < wr.heap.size := Nat.lt_of_lt_of_le hgl hF.out.size
      obtain ⟨ps, hps⟩ : ∃ ps, prs (l.take (2 * k)) = ps := ⟨_, rfl⟩
      rw [hps] at hst ho
      have HSt := Lib.hid hst
      have HC0 := Lib.hid c0
      have HC1 := Lib.hid c1
      have ki : (0 : Int) ≤ 2 * (k : Int) := by omega
      have kw : IntKind.i64.wrap (2 * (k : Int) + 1) = 2 * (k : Int) + 1 := by rw [IntKind.wrap_i64]; omega
      have kw1 : (0 : Int) ≤ 2 * (k : Int) + 1 := by omega
      have kt : (2 * (k : Int)).toNat = 2 * k := by omega
      have k0 : (2 * (k : Int)) < (N : Int) := by omega
      have k1 : (2 * (k : Int)) + 1 < (N : Int) := by omega
      have k2 : ((2 * (k : Int)) + 1).toNat = 2 * k + 1 := by omega
      clear hst hx hy c0 c1 hc hps
      go_wp2
      have hS : Fr (fun b => w.heap.size ≤ b) wr wr.drew := (Fr.refl _ wr).drew
      refine Rg.begin' (Fr (fun b => w.heap.size ≤ b) wr) [] (by kernel_rfl) ?_
      refine Rg.op 0 (some 12) hS (v := ?v0a) (a' := ?a0a) (hy := fun wz hwz => ?h0a) (ha := ?b0a) (h := ?_)
      case h0a => (go_simp; try with_reducible rfl)
      case b0a => (simp only [Act.put, List.setIfInBounds_toArray, List.set_cons_zero, List.set_cons_succ]; rfl)
      refine Rg.op 1 (some 13) hS (v := ?v1a) (a' := ?a1a) (hy := fun wz hwz => ?h1a) (ha := ?b1a) (h := ?_)
      case h1a => (go_simp; try with_reducible rfl)
      case b1a => (simp only [Act.put, List.setIfInBounds_toArray, List.set_cons_zero, List.set_cons_succ]; rfl)
      refine Rg.op 2 (some 14) hS (v := ?v2a) (a' := ?a2a) (hy := fun wz hwz => ?h2a) (ha := ?b2a) (h := ?_)
      case h2a => (go_simp; try with_reducible rfl)
      case b2a => (simp only [Act.put, List.setIfInBounds_toArray, List.set_cons_zero, List.set_cons_succ]; rfl)
      refine Rg.op 3 (some 15) hS (v := ?v3a) (a' := ?a3a) (hy := fun wz hwz => ?h3a) (ha := ?b3a) (h := ?_)
      case h3a => (go_simp; try with_reducible rfl)
      case b3a => (simp only [Act.put, List.setIfInBounds_toArray, List.set_cons_zero, List.set_cons_succ]; rfl)
      refine Rg.op 4 (some 16) hS (v := ?v4a) (a' := ?a4a) (hy := fun wz hwz => ?h4a) (ha := ?b4a) (h := ?_)
      case h4a => (have cc := (hwz.cell (p := ⟨g, o + 2 * k, none⟩) hgw (Nat.not_le_of_lt hgl)).trans HC0.out; have hpp := Nat.lt_of_lt_of_le hgw hwz.size; go_simp; try with_reducible rfl)
      case b4a => (simp only [Act.put, List.setIfInBounds_toArray, List.set_cons_zero, List.set_cons_succ]; rfl)
      refine Rg.op 5 (some 17) hS (v := ?v5a) (a' := ?a5a) (hy := fun wz hwz => ?h5a) (ha := ?b5a) (h := ?_)
      case h5a => (go_simp; try with_reducible rfl)
      case b5a => (simp only [Act.put, List.setIfInBounds_toArray, List.set_cons_zero, List.set_cons_succ]; rfl)
      refine Rg.op 6 (some 18) hS (v := ?v6a) (a' := ?a6a) (hy := fun wz hwz => ?h6a) (ha := ?b6a) (h := ?_)
      case h6a => (go_simp; try with_reducible rfl)
      case b6a => (simp only [Act.put, List.setIfInBounds_toArray, List.set_cons_zero, List.set_cons_succ]; rfl)
      refine Rg.op 7 (some 19) hS (v := ?v7a) (a' := ?a7a) (hy := fun wz hwz => ?h7a) (ha := ?b7a) (h := ?_)
      case h7a => (go_simp; try with_reducible rfl)
      case b7a => (simp only [Act.put, List.setIfInBounds_toArray, List.set_cons_zero, List.set_cons_succ]; rfl)
      refine Rg.op 8 (some 20) hS (v := ?v8a) (a' := ?a8a) (hy := fun wz hwz => ?h8a) (ha := ?b8a) (h := ?_)
      case h8a => (go_simp; try with_reducible rfl)
      case b8a => (simp only [Act.put, List.setIfInBounds_toArray, List.set_cons_zero, List.set_cons_succ]; rfl)
      refine Rg.op 9 (some 21) hS (v := ?v9a) (a' := ?a9a) (hy := fun wz hwz => ?h9a) (ha := ?b9a) (h := ?_)
      case h9a => (have cc := (hwz.cell (p := ⟨g, o + (2 * k + 1), none⟩) hgw (Nat.not_le_of_lt hgl)).trans HC1.out; have hpp := Nat.lt_of_lt_of_le hgw hwz.size; go_simp; try with_reducible rfl)
      case b9a => (simp only [Act.put, List.setIfInBounds_toArray, List.set_cons_zero, List.set_cons_succ]; rfl)
      refine Rg.op 10 (some 22) hS (v := ?v10a) (a' := ?a10a) (hy := fun wz hwz => ?h10a) (ha := ?b10a) (h := ?_)
      case h10a => (go_simp; try with_reducible rfl)
      case b10a => (simp only [Act.put, List.setIfInBounds_toArray, List.set_cons_zero, List.set_cons_succ]; rfl)
      have Sb : Fr (fun b => w.heap.size ≤ b) wr (wr.drew.alloc (.cells #[.int .i64 x, .int .i64 y] 30)) := hS.alloc _
      refine Rg.run 11 (some 23) (v := (.slice (some ⟨wr.drew.heap.size, 0, none⟩) 1 1)) (a' := ?a11a) (w' := ((wr.drew.alloc (.cells #[.int .i64 x, .int .i64 y] 30)))) (hrun := ?h11a) (ha := ?b11a) (hS := (fun _ => Sb)) (h := ?_)
      case h11a => (go_simp; try with_reducible rfl)
      case b11a => (simp only [Act.put, List.setIfInBounds_toArray, List.set_cons_zero, List.set_cons_succ]; rfl)
      have hOb : (wr.drew.alloc (.cells #[.int .i64 x, .int .i64 y] 30)).ownsRow w.heap.size 30 2 u3 k (pcs ps) := own_fr ho.out (((Fr.refl Nob wr).drew).alloc _) (fun _ _ h => h)
      have hnw : ∀ j u, [Value.int .i64 x, .int .i64 y][j]? = some u → (wr.drew.alloc (.cells #[.int .i64 x, .int .i64 y] 30)).cell? ((⟨wr.drew.heap.size, 0, none⟩ : Addr).add j) = some u := by
        intro j u hu
        rw [addr_add, Nat.zero_add, (Blk.new wr.drew 30 #[.int .i64 x, .int .i64 y]).cell, List.getElem?_toArray]
        exact hu
      obtain ⟨v7, w7, hr7, hown7, hg7, _, _⟩ := run_append_own_at (P := Tryd.prog) (wr.drew.alloc (.cells #[.int .i64 x, .int .i64 y] 30)) w.heap.size 26 26 30 i0 (.agg #[.int .i64 0, .int .i64 0]) 2 16 Tryd.underlying26 hi0 hz0 hz1 hz2 rfl (by decide) u3 k (pcs ps) hOb ⟨wr.drew.heap.size, 0, none⟩ 1 1 [.int .i64 x, .int .i64 y] rfl hnw (by intro u hu; simp only [List.mem_cons, List.not_mem_nil, or_false] at hu; rcases hu with rfl | rfl <;> rfl) (by unfold maxLen; omega) (by omega) (by have := Sb.size; have := hF.out.size; omega)
      have HF7 : Hid (Fr Nob w w7) := (hF.out.trans (((Fr.refl Nob wr).drew).alloc _)).grown hg7 (fun r hr => .inl (hOb.lt r hr).1)
      have Sc : Fr (fun b => w.heap.size ≤ b) wr w7 := Sb.grown hg7 (fun r hr => .inr (hOb.lt r hr).1)
      have HR7 := Lib.hid hr7
      have HO7 : Hid (w7.ownsRow w.heap.size 30 2 v7 (k + 1) (pcs (ps ++ [(x, y)]))) := by rw [pcs_snoc]; exact hown7
      clear hr7 hown7 hg7 hnw hOb
      refine Rg.run 12 (some 24) (v := (v7)) (a' := ?a12a) (w' := (w7)) (hrun := ?h12a) (ha := ?b12a) (hS := (fun _ => Sc)) (h := ?_)
      case h12a => exact run_opAppend (.tmp 12) (.tmp 23) 26 26 u3 (.slice (some ⟨wr.drew.heap.size, 0, none⟩) 1 1) rfl rfl rfl rfl HR7.out
      case b12a => (simp only [Act.put, List.setIfInBounds_toArray, List.set_cons_zero, List.set_cons_succ]; rfl)
      refine Rg.op 13 (some 3) Sc (v := ?v13a) (a' := ?a13a) (hy := fun wz hwz => ?h13a) (ha := ?b13a) (h := ?_)
      case h13a => (go_simp; try with_reducible rfl)
      case b13a => (simp only [Act.put, List.setIfInBounds_toArray, List.set_cons_zero, List.set_cons_succ]; rfl)
      refine Rg.done _ (h := ?_)
      rw [← HSt.out] at HO7
      clear Sb Sc hS
      go_wp2
      go_roundw
      case rel => exact ⟨k + 1, by omega, by go_num, HO7, HF7⟩
      case measure => simp [intOf]; omega
    · obtain rfl : k = M := by omega
      have he := prs_end (l := l) (k := k) (by rw [HNl.out]; exact hlt) (by rw [HNl.out]; omega)
      obtain ⟨B, c, rfl, hnc, hI, hba⟩ := ptsIn_row ho.out (by rw [← he, HM.out])
      have HBa := Lib.hid hba
      rw [← he] at hI
      have HR := Lib.hid hI
      have k1 : ¬ (2 * (k : Int)) + 1 < (N : Int) := by omega
      have HC := Lib.hid (clip_any B k c wr hnc)
      clear hI he ho hba
      go_wp2_with fail
      refine HC.out.mono ?_
      rintro e w1 ⟨_, rfl, rfl, rfl⟩
      go_wp2
      go_ret
      exact ⟨B, rfl, HR.out, HBa.out, hF.out⟩
end Go.Proofs.YtidohbhcjnmmeaaDoor
