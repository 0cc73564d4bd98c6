/-
  Commands: slices.Equal of points, same.
-/
import Derived.Test.YtidohbhcjnmmeaaDoorCmd3
namespace Go.Proofs.YtidohbhcjnmmeaaDoor
set_option linter.unusedSimpArgs false
set_option linter.unusedVariables false
open Go.RowKit

set_option maxHeartbeats 1600000 in
set_option maxRecDepth 100000 in
theorem Equal_any (A B : Option Addr) (c d : Nat) (xs ys : List (Int × Int)) (w : World) (hA : PtsIn w A xs) (hB : PtsIn w B ys) (hx : xs.length ≤ 1000000) (hy : ys.length ≤ 1000000) :
    Calls Tryd.prog 33 #[.slice A xs.length c, .slice B ys.length d] w fun e w' => e = .returned (.bool (decide (xs = ys))) ∧ Fr Nob w w' := by
  have qP := len_Ps
  have HA := Lib.hid hA
  have HB := Lib.hid hB
  obtain ⟨m, hm⟩ : ∃ m, xs.length = m := ⟨_, rfl⟩
  obtain ⟨n, hn⟩ : ∃ n, ys.length = n := ⟨_, rfl⟩
  have HM := Lib.hid hm
  have HN := Lib.hid hn
  obtain ⟨R, hR⟩ : ∃ R, decide (xs = ys) = R := ⟨_, rfl⟩
  have HR := Lib.hid hR
  rw [hm] at hx ⊢
  rw [hn] at hy ⊢
  rw [hR]
  clear hA hB hm hn hR
  go_enter Tryd.func33, Tryd.ntmps33
  by_cases hmn : m = n
  · have HMn := Lib.hid hmn
    have kmn : ((m : Nat) : Int) = (n : Nat) := by omega
    subst hmn
    clear kmn HMn
    go_wp2
    go_loopw [5, 13] (fun _ i wr => ∃ k : Nat, k ≤ m ∧ i = .int .i64 k ∧ Hid (xs.take k = ys.take k) ∧ Hid (Fr Nob w wr)) (fun _ i _ => m - (intOf i).toNat)
    case atStart => exact ⟨0, Nat.zero_le _, rfl, rfl, Fr.refl _ _⟩
    case round =>
      obtain ⟨k, hk, rfl, hT, hF⟩ := hrel
      by_cases hlt : k < m
      · have hx1 : k < xs.length := by rw [HM.out]; exact hlt
        have hy1 : k < ys.length := by rw [HN.out]; exact hlt
        obtain ⟨ga, oa, rfl, hca⟩ := HA.out (by omega)
        obtain ⟨gb, ob, rfl, hcb⟩ := HB.out (by omega)
        obtain ⟨a0, a1⟩ := hca k _ (List.getElem?_eq_getElem hx1)
        obtain ⟨b0, b1⟩ := hcb k _ (List.getElem?_eq_getElem hy1)
        have hla := cell_lt a0
        have hlb := cell_lt b0
        dsimp only at hla hlb
        rw [← hF.out.cell (cell_lt a0) (fun h => h)] at a0
        rw [← hF.out.cell (cell_lt a1) (fun h => h)] at a1
        rw [← hF.out.cell (cell_lt b0) (fun h => h)] at b0
        rw [← hF.out.cell (cell_lt b1) (fun h => h)] at b1
        have hga := Nat.lt_of_lt_of_le hla hF.out.size
        have hgb := Nat.lt_of_lt_of_le hlb hF.out.size
        have htx : xs.take (k + 1) = xs.take k ++ [xs[k]] := (List.take_append_getElem hx1).symm
        have hty : ys.take (k + 1) = ys.take k ++ [ys[k]] := (List.take_append_getElem hy1).symm
        have hneq : xs[k] ≠ ys[k] → xs ≠ ys := fun h e => h (by subst e; rfl)
        obtain ⟨x, hxk⟩ : ∃ x, xs[k] = x := ⟨_, rfl⟩
        obtain ⟨y, hyk⟩ : ∃ y, ys[k] = y := ⟨_, rfl⟩
        rw [hxk] at a0 a1 htx hneq
        rw [hyk] at b0 b1 hty hneq
        obtain ⟨x1, x2⟩ := x
        obtain ⟨y1, y2⟩ := y
        dsimp only at a0 a1 b0 b1
        have A0 := Lib.hid a0
        have A1 := Lib.hid a1
        have B0 := Lib.hid b0
        have B1 := Lib.hid b1
        have HTx := Lib.hid htx
        have HTy := Lib.hid hty
        have HNe := Lib.hid hneq
        have ki : (0 : Int) ≤ (k : Int) := by omega
        clear a0 a1 b0 b1 htx hty hneq hxk hyk hca hcb
        go_wp2
        have hS : Fr Nob wr wr.drew := (Fr.refl Nob wr).drew
        by_cases hxy : (x1, x2) = (y1, y2)
        · have HXY := Lib.hid hxy
          injection hxy with e1 e2
          subst e1 e2
          refine Rg.begin' (Fr Nob wr) [] (by kernel_rfl) ?_
          refine Rg.op 0 (some 16) hS (v := ?v0e) (a' := ?a0e) (hy := fun wz hwz => ?h0e) (ha := ?b0e) (h := ?_)
          case h0e => (go_simp; try with_reducible rfl)
          case b0e => (simp only [Act.put, List.setIfInBounds_toArray, List.set_cons_zero, List.set_cons_succ]; rfl)
          refine Rg.op 1 (some 17) hS (v := ?v1e) (a' := ?a1e) (hy := fun wz hwz => ?h1e) (ha := ?b1e) (h := ?_)
          case h1e => (go_simp; try with_reducible rfl)
          case b1e => (simp only [Act.put, List.setIfInBounds_toArray, List.set_cons_zero, List.set_cons_succ]; rfl)
          refine Rg.op 2 (some 18) hS (v := ?v2e) (a' := ?a2e) (hy := fun wz hwz => ?h2e) (ha := ?b2e) (h := ?_)
          case h2e => (go_simp; try with_reducible rfl)
          case b2e => (simp only [Act.put, List.setIfInBounds_toArray, List.set_cons_zero, List.set_cons_succ]; rfl)
          refine Rg.op 3 (some 19) hS (v := (.agg #[.int .i64 x1, .int .i64 x2])) (a' := ?a3e) (hy := fun wz hwz => ?h3e) (ha := ?b3e) (h := ?_)
          case h3e => (have cc0 := (hwz.cell (p := ⟨ga, oa + k * 2, none⟩) hga (fun h => h)).trans A0.out; have cc1 := (hwz.cell (p := ⟨ga, oa + k * 2 + 1, none⟩) hga (fun h => h)).trans A1.out; have hpp := Nat.lt_of_lt_of_le hga hwz.size; go_simp; try with_reducible rfl)
          case b3e => (simp only [Act.put, List.setIfInBounds_toArray, List.set_cons_zero, List.set_cons_succ]; rfl)
          refine Rg.op 4 (some 20) hS (v := ?v4e) (a' := ?a4e) (hy := fun wz hwz => ?h4e) (ha := ?b4e) (h := ?_)
          case h4e => (go_simp; try with_reducible rfl)
          case b4e => (simp only [Act.put, List.setIfInBounds_toArray, List.set_cons_zero, List.set_cons_succ]; rfl)
          refine Rg.op 5 (some 21) hS (v := ?v5e) (a' := ?a5e) (hy := fun wz hwz => ?h5e) (ha := ?b5e) (h := ?_)
          case h5e => (go_simp; try with_reducible rfl)
          case b5e => (simp only [Act.put, List.setIfInBounds_toArray, List.set_cons_zero, List.set_cons_succ]; rfl)
          refine Rg.op 6 (some 22) hS (v := ?v6e) (a' := ?a6e) (hy := fun wz hwz => ?h6e) (ha := ?b6e) (h := ?_)
          case h6e => (go_simp; try with_reducible rfl)
          case b6e => (simp only [Act.put, List.setIfInBounds_toArray, List.set_cons_zero, List.set_cons_succ]; rfl)
          refine Rg.op 7 (some 23) hS (v := ?v7e) (a' := ?a7e) (hy := fun wz hwz => ?h7e) (ha := ?b7e) (h := ?_)
          case h7e => (have cc0 := (hwz.cell (p := ⟨gb, ob + k * 2, none⟩) hgb (fun h => h)).trans B0.out; have cc1 := (hwz.cell (p := ⟨gb, ob + k * 2 + 1, none⟩) hgb (fun h => h)).trans B1.out; have hpp := Nat.lt_of_lt_of_le hgb hwz.size; go_simp; try with_reducible rfl)
          case b7e => (simp only [Act.put, List.setIfInBounds_toArray, List.set_cons_zero, List.set_cons_succ]; rfl)
          refine Rg.op 8 (some 24) hS (v := (.bool false)) (a' := ?a8e) (hy := fun wz hwz => ?h8e) (ha := ?b8e) (h := ?_)
          case h8e => (skip; go_simp; try with_reducible rfl)
          case b8e => (simp only [Act.put, List.setIfInBounds_toArray, List.set_cons_zero, List.set_cons_succ]; rfl)
          refine Rg.done _ (h := ?_)
          go_wp2
          go_roundw
          case rel => exact ⟨k + 1, by omega, by go_num, by rw [HTx.out, HTy.out, hT.out]; rfl, hF.out.trans hS⟩
          case measure => simp [intOf]; omega
        · have HN2 : Hid (x1 = y1 → ¬x2 = y2) := fun h1 h2 => hxy (by rw [h1, h2])
          have HXY := Lib.hid (HNe.out hxy)
          clear hxy
          refine Rg.begin' (Fr Nob wr) [] (by kernel_rfl) ?_
          refine Rg.op 0 (some 16) hS (v := ?v0n) (a' := ?a0n) (hy := fun wz hwz => ?h0n) (ha := ?b0n) (h := ?_)
          case h0n => (go_simp; try with_reducible rfl)
          case b0n => (simp only [Act.put, List.setIfInBounds_toArray, List.set_cons_zero, List.set_cons_succ]; rfl)
          refine Rg.op 1 (some 17) hS (v := ?v1n) (a' := ?a1n) (hy := fun wz hwz => ?h1n) (ha := ?b1n) (h := ?_)
          case h1n => (go_simp; try with_reducible rfl)
          case b1n => (simp only [Act.put, List.setIfInBounds_toArray, List.set_cons_zero, List.set_cons_succ]; rfl)
          refine Rg.op 2 (some 18) hS (v := ?v2n) (a' := ?a2n) (hy := fun wz hwz => ?h2n) (ha := ?b2n) (h := ?_)
          case h2n => (go_simp; try with_reducible rfl)
          case b2n => (simp only [Act.put, List.setIfInBounds_toArray, List.set_cons_zero, List.set_cons_succ]; rfl)
          refine Rg.op 3 (some 19) hS (v := (.agg #[.int .i64 x1, .int .i64 x2])) (a' := ?a3n) (hy := fun wz hwz => ?h3n) (ha := ?b3n) (h := ?_)
          case h3n => (have cc0 := (hwz.cell (p := ⟨ga, oa + k * 2, none⟩) hga (fun h => h)).trans A0.out; have cc1 := (hwz.cell (p := ⟨ga, oa + k * 2 + 1, none⟩) hga (fun h => h)).trans A1.out; have hpp := Nat.lt_of_lt_of_le hga hwz.size; go_simp; try with_reducible rfl)
          case b3n => (simp only [Act.put, List.setIfInBounds_toArray, List.set_cons_zero, List.set_cons_succ]; rfl)
          refine Rg.op 4 (some 20) hS (v := ?v4n) (a' := ?a4n) (hy := fun wz hwz => ?h4n) (ha := ?b4n) (h := ?_)
          case h4n => (go_simp; try with_reducible rfl)
          case b4n => (simp only [Act.put, List.setIfInBounds_toArray, List.set_cons_zero, List.set_cons_succ]; rfl)
          refine Rg.op 5 (some 21) hS (v := ?v5n) (a' := ?a5n) (hy := fun wz hwz => ?h5n) (ha := ?b5n) (h := ?_)
          case h5n => (go_simp; try with_reducible rfl)
          case b5n => (simp only [Act.put, List.setIfInBounds_toArray, List.set_cons_zero, List.set_cons_succ]; rfl)
          refine Rg.op 6 (some 22) hS (v := ?v6n) (a' := ?a6n) (hy := fun wz hwz => ?h6n) (ha := ?b6n) (h := ?_)
          case h6n => (go_simp; try with_reducible rfl)
          case b6n => (simp only [Act.put, List.setIfInBounds_toArray, List.set_cons_zero, List.set_cons_succ]; rfl)
          refine Rg.op 7 (some 23) hS (v := ?v7n) (a' := ?a7n) (hy := fun wz hwz => ?h7n) (ha := ?b7n) (h := ?_)
          case h7n => (have cc0 := (hwz.cell (p := ⟨gb, ob + k * 2, none⟩) hgb (fun h => h)).trans B0.out; have cc1 := (hwz.cell (p := ⟨gb, ob + k * 2 + 1, none⟩) hgb (fun h => h)).trans B1.out; have hpp := Nat.lt_of_lt_of_le hgb hwz.size; go_simp; try with_reducible rfl)
          case b7n => (simp only [Act.put, List.setIfInBounds_toArray, List.set_cons_zero, List.set_cons_succ]; rfl)
          refine Rg.op 8 (some 24) hS (v := (.bool true)) (a' := ?a8n) (hy := fun wz hwz => ?h8n) (ha := ?b8n) (h := ?_)
          case h8n => (skip; go_simp; exact HN2.out)
          case b8n => (simp only [Act.put, List.setIfInBounds_toArray, List.set_cons_zero, List.set_cons_succ]; rfl)
          refine Rg.done _ (h := ?_)
          go_wp2
          go_ret
          exact ⟨by rw [← HR.out, decide_eq_false HXY.out]; rfl, hF.out.trans hS⟩
      · obtain rfl : k = m := by omega
        have he : xs = ys := by
          have := hT.out
          rwa [List.take_of_length_le (by rw [HM.out]; exact Nat.le_refl _), List.take_of_length_le (by rw [HN.out]; exact Nat.le_refl _)] at this
        have HE := Lib.hid he
        clear he hT
        go_wp2
        go_ret
        exact ⟨by rw [← HR.out, decide_eq_true HE.out]; rfl, hF.out⟩
  · have hne : xs ≠ ys := fun e => hmn (by rw [← HM.out, ← HN.out, e])
    have HNe := Lib.hid hne
    have kmn : ¬ ((m : Nat) : Int) = (n : Nat) := by omega
    clear hne
    go_wp2
    go_ret
    exact ⟨by rw [← HR.out, decide_eq_false HNe.out]; rfl, Fr.refl _ _⟩
end Go.Proofs.YtidohbhcjnmmeaaDoor
