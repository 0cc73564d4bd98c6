/-
  sort.Search over a closure that only reads; where in a log the record stands that ends behind a place.
-/
import Derived.Test.YtieiopeblleheaaWalPure
namespace Go.Proofs.Ytieiopeblleheaa
set_option linter.unusedSimpArgs false
set_option linter.unusedVariables false
open Go.RowKit

theorem drewN_drewN (w : World) (a b : Nat) : (w.drewN a).drewN b = w.drewN (a + b) := by
  unfold World.drewN
  simp only [Nat.add_assoc]
set_option maxHeartbeats 800000 in
set_option maxRecDepth 100000 in
/-- sort.Search, over a predicate that rises. -/
theorem Search_any (gf : Nat) (cb : Array Value) (n : Nat) (p : Nat → Bool) (w : World) (hn : n < 4611686018427387904) (eg : ∀ args w, (callFunc gf args).run Try.prog w = .ok (.enter gf args) w)
    (hp : ∀ i, i < n → ∀ m, Calls Try.prog gf (#[.int .i64 i] ++ cb) (w.drewN m) fun e w' => e = .returned (.bool (p i)) ∧ ∃ q, w' = w.drewN q) (hm : ∀ i j, i ≤ j → j < n → p i = true → p j = true) :
    Calls Try.prog 68 #[.int .i64 n, .func (.func gf) #[] cb] w fun e w' => ∃ k : Nat, k ≤ n ∧ e = .returned (.int .i64 k) ∧ (∀ i, i < k → p i = false) ∧ (k < n → p k = true) ∧ ∃ q, w' = w.drewN q := by
  have HP := Lib.hid hp
  have HM := Lib.hid hm
  clear hp hm
  go_enter Try.func68, Try.ntmps68
  go_wp2
  go_loopw [5, 6, 7] (fun i j _ wr => ∃ a b : Nat, a ≤ b ∧ b ≤ n ∧ i = .int .i64 a ∧ j = .int .i64 b ∧ Hid (∀ x, x < a → p x = false) ∧ Hid (b < n → p b = true) ∧ Hid (∃ q, wr = w.drewN q)) (fun i j _ _ => (intOf j).toNat - (intOf i).toNat)
  case atStart => exact ⟨0, n, by omega, by omega, rfl, rfl, (fun x h => absurd h (by omega)), (fun h => absurd h (by omega)), ⟨0, rfl⟩⟩
  case round =>
    obtain ⟨a, b, hab, hbn, rfl, rfl, h1, h2, h3⟩ := hrel
    by_cases hlt : a < b
    · obtain ⟨q, rfl⟩ := h3.out
      have hmid : (a + b) / 2 < n := by omega
      have hp1 := HP.out ((a + b) / 2) hmid q
      have e1 : IntKind.i64.wrap ((a : Int) + (b : Int)) = (a : Int) + (b : Int) := by rw [IntKind.wrap_i64]; omega
      have e2 : IntKind.u64.wrap ((a : Int) + (b : Int)) = (a : Int) + (b : Int) := by rw [IntKind.wrap_u64]; omega
      have e3 : (((a + b) / 2 : Nat) : Int) = ((a : Int) + (b : Int)) / 2 := by omega
      rw [e3] at hp1
      have HP1 := Lib.hid hp1
      have HE3 := Lib.hid e3
      have hge : (a : Int) ≤ ((a : Int) + (b : Int)) / 2 := by omega
      have hlt2 : ((a : Int) + (b : Int)) / 2 < (b : Int) := by omega
      clear hp1 e3
      go_wp2_with fail
      refine HP1.out.mono ?_
      rintro e w' ⟨rfl, q2, rfl⟩
      cases hpm : p ((a + b) / 2)
      · have HN : Hid (∀ x, x < (a + b) / 2 + 1 → p x = false) := by
          intro x hx
          rcases Nat.lt_or_ge x a with h | h
          · exact h1.out x h
          · cases hpx : p x with
            | false => rfl
            | true => rw [HM.out x ((a + b) / 2) (by omega) hmid hpx] at hpm; cases hpm
        clear hpm
        go_wp2
        go_roundw
        case rel => exact ⟨(a + b) / 2 + 1, b, by omega, hbn, by have := HE3.out; rw [show (((a + b) / 2 + 1 : Nat) : Int) = ((a : Int) + (b : Int)) / 2 + 1 from by omega], rfl, HN, h2, ⟨q2, rfl⟩⟩
        case measure => simp [intOf]; omega
      · have HN : Hid ((a + b) / 2 < n → p ((a + b) / 2) = true) := fun _ => hpm
        clear hpm
        go_wp2
        go_roundw
        case rel => exact ⟨a, (a + b) / 2, by omega, by omega, rfl, by have := HE3.out; rw [show (((a + b) / 2 : Nat) : Int) = ((a : Int) + (b : Int)) / 2 from by omega], h1, HN, ⟨q2, rfl⟩⟩
        case measure => simp [intOf]; omega
    · obtain rfl : a = b := by omega
      go_wp2
      go_ret
      exact ⟨a, hbn, rfl, h1.out, h2.out, h3.out⟩

/-- Where a record ends. -/
def LS.endOf (L : LS) (i : Nat) : Nat := (L.l.getD i ([], 0)).2 + (16 + (L.l.getD i ([], 0)).1.length)

/-- What is known of a record in memory. -/
theorem LogAt.rec_at {R : Nat → Prop} {w : World} {p d : Nat} {L : LS} {lv : Value} {rv : List (Value × Nat)} (h : LogAt R w p d lv rv L) (i : Nat) (hi : i < L.l.length) :
    ∃ g o c gr c2, lv = .slice (some ⟨g, o, none⟩) L.l.length c ∧ w.cell? ⟨g, o + i * 2, none⟩ = some (.slice (some ⟨gr, 0, none⟩) L.l[i].1.length c2) ∧ w.cell? ⟨g, o + i * 2 + 1, none⟩ = some (.int .u64 L.l[i].2) ∧ RecIn R w (.slice (some ⟨gr, 0, none⟩) L.l[i].1.length c2) L.l[i].1 ∧ g < w.heap.size ∧ R g := by
  obtain ⟨g, o, cap, e, hg, _⟩ := h.own.form (by omega)
  have hiv : i < rv.length := by rw [h.recs.1]; exact hi
  have hx := recCells_get rv i hiv
  have d0 := h.own
  rw [e] at d0
  have c0 := d0.cellAt (i * 2) (by omega)
  have c1 := d0.cellAt (i * 2 + 1) (by omega)
  rw [hx.1] at c0
  rw [hx.2, ← Nat.add_assoc] at c1
  obtain ⟨e1, _, e3⟩ := h.recs.2 i rv[i] L.l[i] (List.getElem?_eq_getElem hiv) (List.getElem?_eq_getElem hi)
  obtain ⟨gr, c2, ev⟩ : ∃ gr c2, rv[i].1 = .slice (some ⟨gr, 0, none⟩) L.l[i].1.length c2 := by
    rcases e3.1.2 with ⟨e, e0⟩ | ⟨g, cap, cur, e, _⟩
    · exact absurd e (h.nn _ (List.getElem_mem hiv))
    · exact ⟨_, _, e⟩
  rw [ev] at c0 e3
  rw [e1] at c1
  exact ⟨g, o, cap, gr, c2, e, c0, c1, e3, hg, h.rl g (by rw [e]; rfl)⟩

set_option maxHeartbeats 800000 in
set_option maxRecDepth 100000 in
theorem bytes1_any {R : Nat → Prop} {w : World} {p d : Nat} {L : LS} (B1 B2 fr : Nat) (h : LogOk R w p d L) (h1 : w.cell? ⟨B1, 0, none⟩ = some (.pointer (some ⟨p, 0, none⟩))) (h2 : w.cell? ⟨B2, 0, none⟩ = some (.int .u64 fr))
    (hfr : fr < 18446744073709551616) (i : Nat) (hi : i < L.l.length) (hll : L.l.length < 4000000000) (he : L.endOf i < 18446744073709551616) (hbl : L.l[i].1.length ≤ 3000000000) :
    Calls Try.prog 69 #[.int .i64 i, .pointer (some ⟨B1, 0, none⟩), .pointer (some ⟨B2, 0, none⟩)] w fun e w' => e = .returned (.bool (decide (fr < L.endOf i))) ∧ w' = w.drewN 1 := by
  obtain ⟨lv, rv, h⟩ := h
  obtain ⟨g, o, c, gr, c2, rfl, d0, d1, _, hg, _⟩ := h.rec_at i hi
  have c6 := h.blk.cell 6
  have hp := h.blk.lt
  simp only [List.getElem?_toArray, List.getElem?_cons_zero, List.getElem?_cons_succ] at c6
  clear h
  have hend : L.endOf i = L.l[i].2 + (16 + L.l[i].1.length) := by
    unfold LS.endOf
    rw [List.getD_eq_getElem?_getD, List.getElem?_eq_getElem hi]; rfl
  rw [hend] at he
  have HE := Lib.hid hend
  clear hend
  obtain ⟨n, hn⟩ : ∃ n, L.l.length = n := ⟨_, rfl⟩
  obtain ⟨a, ha⟩ : ∃ a, L.l[i].2 = a := ⟨_, rfl⟩
  obtain ⟨b, hb⟩ : ∃ b, L.l[i].1.length = b := ⟨_, rfl⟩
  rw [ha] at d1
  rw [hb] at d0 hbl
  rw [ha, hb] at he HE
  rw [hn] at c6 hi hll
  clear hn ha hb
  go_enter Try.func69, Try.ntmps69
  go_wp2
  have hS : w.drew = w.drew := rfl
  refine Rg.begin (fun W => W = w.drew) [] (by kernel_rfl) ?_
  refine Rg.op 0 (some 5) hS (v := ?v0) (a' := ?a0) (hy := fun wz hwz => ?h0) (ha := ?b0) (h := ?_)
  case h0 => (obtain rfl := hwz; go_simp; try with_reducible rfl)
  case b0 => (simp only [Act.put, List.setIfInBounds_toArray, List.set_cons_zero, List.set_cons_succ]; rfl)
  refine Rg.op 1 (some 6) hS (v := ?v1) (a' := ?a1) (hy := fun wz hwz => ?h1) (ha := ?b1) (h := ?_)
  case h1 => (obtain rfl := hwz; go_simp; try with_reducible rfl)
  case b1 => (simp only [Act.put, List.setIfInBounds_toArray, List.set_cons_zero, List.set_cons_succ]; rfl)
  refine Rg.op 2 (some 7) hS (v := ?v2) (a' := ?a2) (hy := fun wz hwz => ?h2) (ha := ?b2) (h := ?_)
  case h2 => (go_simp; try with_reducible rfl)
  case b2 => (simp only [Act.put, List.setIfInBounds_toArray, List.set_cons_zero, List.set_cons_succ]; rfl)
  refine Rg.op 3 (some 8) hS (v := ?v3) (a' := ?a3) (hy := fun wz hwz => ?h3) (ha := ?b3) (h := ?_)
  case h3 => (obtain rfl := hwz; go_simp; try with_reducible rfl)
  case b3 => (simp only [Act.put, List.setIfInBounds_toArray, List.set_cons_zero, List.set_cons_succ]; rfl)
  refine Rg.op 4 (some 9) hS (v := ?v4) (a' := ?a4) (hy := fun wz hwz => ?h4) (ha := ?b4) (h := ?_)
  case h4 => (go_simp; try with_reducible rfl)
  case b4 => (simp only [Act.put, List.setIfInBounds_toArray, List.set_cons_zero, List.set_cons_succ]; rfl)
  refine Rg.op 5 (some 10) hS (v := ?v5) (a' := ?a5) (hy := fun wz hwz => ?h5) (ha := ?b5) (h := ?_)
  case h5 => (obtain rfl := hwz; have u1 : (0 : Int) ≤ (i : Int) := (by omega); have u2 : (i : Int) < (n : Int) := (by omega); go_simp; try with_reducible rfl)
  case b5 => (simp only [Act.put, List.setIfInBounds_toArray, List.set_cons_zero, List.set_cons_succ]; rfl)
  refine Rg.op 6 (some 11) hS (v := ?v6) (a' := ?a6) (hy := fun wz hwz => ?h6) (ha := ?b6) (h := ?_)
  case h6 => (go_simp; try with_reducible rfl)
  case b6 => (simp only [Act.put, List.setIfInBounds_toArray, List.set_cons_zero, List.set_cons_succ]; rfl)
  refine Rg.op 7 (some 12) hS (v := ?v7) (a' := ?a7) (hy := fun wz hwz => ?h7) (ha := ?b7) (h := ?_)
  case h7 => (obtain rfl := hwz; go_simp; try with_reducible rfl)
  case b7 => (simp only [Act.put, List.setIfInBounds_toArray, List.set_cons_zero, List.set_cons_succ]; rfl)
  refine Rg.op 8 (some 13) hS (v := ?v8) (a' := ?a8) (hy := fun wz hwz => ?h8) (ha := ?b8) (h := ?_)
  case h8 => (obtain rfl := hwz; go_simp; try with_reducible rfl)
  case b8 => (simp only [Act.put, List.setIfInBounds_toArray, List.set_cons_zero, List.set_cons_succ]; rfl)
  refine Rg.op 9 (some 14) hS (v := ?v9) (a' := ?a9) (hy := fun wz hwz => ?h9) (ha := ?b9) (h := ?_)
  case h9 => (obtain rfl := hwz; go_simp; try with_reducible rfl)
  case b9 => (simp only [Act.put, List.setIfInBounds_toArray, List.set_cons_zero, List.set_cons_succ]; rfl)
  refine Rg.op 10 (some 15) hS (v := ?v10) (a' := ?a10) (hy := fun wz hwz => ?h10) (ha := ?b10) (h := ?_)
  case h10 => (go_simp; try with_reducible rfl)
  case b10 => (simp only [Act.put, List.setIfInBounds_toArray, List.set_cons_zero, List.set_cons_succ]; rfl)
  refine Rg.op 11 (some 16) hS (v := ?v11) (a' := ?a11) (hy := fun wz hwz => ?h11) (ha := ?b11) (h := ?_)
  case h11 => (obtain rfl := hwz; go_simp; try with_reducible rfl)
  case b11 => (simp only [Act.put, List.setIfInBounds_toArray, List.set_cons_zero, List.set_cons_succ]; rfl)
  refine Rg.op 12 (some 17) hS (v := ?v12) (a' := ?a12) (hy := fun wz hwz => ?h12) (ha := ?b12) (h := ?_)
  case h12 => (go_simp; try with_reducible rfl)
  case b12 => (simp only [Act.put, List.setIfInBounds_toArray, List.set_cons_zero, List.set_cons_succ]; rfl)
  refine Rg.op 13 (some 18) hS (v := ?v13) (a' := ?a13) (hy := fun wz hwz => ?h13) (ha := ?b13) (h := ?_)
  case h13 => (obtain rfl := hwz; have u1 : (0 : Int) ≤ (i : Int) := (by omega); have u2 : (i : Int) < (n : Int) := (by omega); go_simp; try with_reducible rfl)
  case b13 => (simp only [Act.put, List.setIfInBounds_toArray, List.set_cons_zero, List.set_cons_succ]; rfl)
  refine Rg.op 14 (some 19) hS (v := ?v14) (a' := ?a14) (hy := fun wz hwz => ?h14) (ha := ?b14) (h := ?_)
  case h14 => (go_simp; try with_reducible rfl)
  case b14 => (simp only [Act.put, List.setIfInBounds_toArray, List.set_cons_zero, List.set_cons_succ]; rfl)
  refine Rg.op 15 (some 20) hS (v := ?v15) (a' := ?a15) (hy := fun wz hwz => ?h15) (ha := ?b15) (h := ?_)
  case h15 => (obtain rfl := hwz; go_simp; try with_reducible rfl)
  case b15 => (simp only [Act.put, List.setIfInBounds_toArray, List.set_cons_zero, List.set_cons_succ]; rfl)
  refine Rg.op 16 (some 21) hS (v := ?v16) (a' := ?a16) (hy := fun wz hwz => ?h16) (ha := ?b16) (h := ?_)
  case h16 => (go_simp; try with_reducible rfl)
  case b16 => (simp only [Act.put, List.setIfInBounds_toArray, List.set_cons_zero, List.set_cons_succ]; rfl)
  refine Rg.op 17 (some 22) hS (v := ?v17) (a' := ?a17) (hy := fun wz hwz => ?h17) (ha := ?b17) (h := ?_)
  case h17 => (have u3 : IntKind.i64.wrap (16 + (b : Int)) = 16 + (b : Int) := (by rw [IntKind.wrap_i64]; omega); go_simp; try with_reducible rfl)
  case b17 => (simp only [Act.put, List.setIfInBounds_toArray, List.set_cons_zero, List.set_cons_succ]; rfl)
  refine Rg.op 18 (some 23) hS (v := ?v18) (a' := ?a18) (hy := fun wz hwz => ?h18) (ha := ?b18) (h := ?_)
  case h18 => (have u4 : IntKind.u64.wrap (16 + (b : Int)) = 16 + (b : Int) := (by rw [IntKind.wrap_u64]; omega); go_simp; try with_reducible rfl)
  case b18 => (simp only [Act.put, List.setIfInBounds_toArray, List.set_cons_zero, List.set_cons_succ]; rfl)
  refine Rg.op 19 (some 24) hS (v := (.int .u64 ((a + (16 + b) : Nat) : Int))) (a' := ?a19) (hy := fun wz hwz => ?h19) (ha := ?b19) (h := ?_)
  case h19 => (have u5 : IntKind.u64.wrap ((a : Int) + (16 + (b : Int))) = ((a + (16 + b) : Nat) : Int) := (by rw [IntKind.wrap_u64]; omega); go_simp; try with_reducible rfl)
  case b19 => (simp only [Act.put, List.setIfInBounds_toArray, List.set_cons_zero, List.set_cons_succ]; rfl)
  refine Rg.op 20 (some 25) hS (v := ?v20) (a' := ?a20) (hy := fun wz hwz => ?h20) (ha := ?b20) (h := ?_)
  case h20 => (obtain rfl := hwz; go_simp; try with_reducible rfl)
  case b20 => (simp only [Act.put, List.setIfInBounds_toArray, List.set_cons_zero, List.set_cons_succ]; rfl)
  refine Rg.op 21 (some 26) hS (v := (.bool (decide (fr < a + (16 + b))))) (a' := ?a21) (hy := fun wz hwz => ?h21) (ha := ?b21) (h := ?_)
  case h21 => (go_simp; omega)
  case b21 => (simp only [Act.put, List.setIfInBounds_toArray, List.set_cons_zero, List.set_cons_succ]; rfl)
  refine Rg.op 22 (some 4) hS (v := ?v22) (a' := ?a22) (hy := fun wz hwz => ?h22) (ha := ?b22) (h := ?_)
  case h22 => (go_simp; try with_reducible rfl)
  case b22 => (simp only [Act.put, List.setIfInBounds_toArray, List.set_cons_zero, List.set_cons_succ]; rfl)
  refine Rg.done _ (h := ?_)
  go_wp2
  go_ret
  exact ⟨by rw [HE.out]; rfl, rfl⟩
end Go.Proofs.Ytieiopeblleheaa
