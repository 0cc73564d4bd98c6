/-
  WalPure, WalSearch, WalBytes, in one text.
-/
import Derived.Test.YtccmmnacejdeoaaGreatDoorMg13
/-
  What Open makes of sectors on which a log's bytes lie (plain).
-/
namespace Go.Proofs.YtccmmnacejdeoaaGreatDoor
set_option linter.unusedSimpArgs false
set_option linter.unusedVariables false
open Go.RowKit

/-- The bytes of records, from a number on. -/
def frames (x : Nat) : List (List UInt8) → List UInt8
  | [] => []
  | r :: rs => fraB x r ++ frames (x + 1) rs
theorem frames_append (a b : List (List UInt8)) : ∀ x, frames x (a ++ b) = frames x a ++ frames (x + a.length) b := by
  induction a with
  | nil => intro x; rfl
  | cons r a ih =>
    intro x
    simp only [List.cons_append, frames, ih, List.append_assoc, List.length_cons]
    rw [show x + 1 + a.length = x + (a.length + 1) from by omega]
def sizes (rs : List (List UInt8)) : Nat := (rs.map fun r => 16 + r.length).sum
theorem frames_length (rs : List (List UInt8)) : ∀ x, (frames x rs).length = sizes rs := by
  induction rs with
  | nil => intro x; rfl
  | cons r rs ih => intro x; simp only [frames, List.length_append, fraB_length, ih, sizes, List.map_cons, List.sum_cons]
theorem sizes_append (a b : List (List UInt8)) : sizes (a ++ b) = sizes a + sizes b := by simp [sizes]
theorem sizes_ge (rs : List (List UInt8)) : 16 * rs.length ≤ sizes rs := by
  induction rs with
  | nil => simp [sizes]
  | cons r rs ih => simp only [sizes, List.map_cons, List.sum_cons, List.length_cons] at ih ⊢; omega

def LS.adds (L : LS) : List (List UInt8) → LS
  | [] => L
  | r :: rs => LS.adds (L.add r) rs

/-- Sectors from number no0 on bear bs, and nothing hangs on behind them. -/
structure Sects (S : DS) (L : LS) (no0 : Nat) (bs : List UInt8) (m : Nat) (lf : Nat → Nat) : Prop where
  sec : ∀ i, i < m → S.now.getD (L.place (no0 + i)) [] = sectB (no0 + i) (lf i) ((bs.drop (48 * i)).take 48)
  long : bs.length ≤ 48 * m
  short : 0 < m → 48 * m < bs.length + 48
  mono : ∀ i j, i ≤ j → j < m → lf i ≤ lf j
  lives : ∀ i, i < m → lf i < 281474976710656
  nos : no0 + m < 1099511627776
  fit : m ≤ L.n - 2
  stop : bs.length = 48 * m → m < L.n - 2 → ¬ (pGood (S.now.getD (L.place (no0 + m)) []) = true ∧ pNo (S.now.getD (L.place (no0 + m)) []) = no0 + m)

theorem Sects.str {S : DS} {L : LS} {no0 : Nat} {bs : List UInt8} {m : Nat} {lf : Nat → Nat} (h : Sects S L no0 bs m lf) (hf : L.fin / 48 = no0) :
    ∀ k, k ≤ L.n - 2 → (48 * k ≤ bs.length ∧ (L.str S k).op = true ∧ (L.str S k).out = bs.take (48 * k) ∧ ∀ i, k ≤ i → i < m → (L.str S k).life ≤ lf i) ∨ ((L.str S k).op = false ∧ (L.str S k).out = bs)
  | 0, _ => .inl ⟨by omega, rfl, by rw [Nat.mul_zero, List.take_zero]; rfl, fun i _ _ => Nat.zero_le _⟩
  | k + 1, hk => by
    have ih := Sects.str h hf k (by omega)
    simp only [LS.str]
    rw [hf]
    rcases ih with ⟨h1, h2, h3, h4⟩ | ⟨h1, h2⟩
    · by_cases hm : k < m
      · have hs := h.sec k hm
        have hsh := h.short (by omega)
        have hcl : ((bs.drop (48 * k)).take 48).length = min 48 (bs.length - 48 * k) := by rw [List.length_take, List.length_drop]
        have hc48 : ((bs.drop (48 * k)).take 48).length ≤ 48 := by omega
        have hnos := h.nos
        have hg := sectB_good (no0 + k) (lf k) _ hc48 (by omega) (by omega) (h.lives k hm)
        have hno := sectB_no (no0 + k) (lf k) _ hc48 (by omega)
        have hli := sectB_life (no0 + k) (lf k) _ hc48 (h.lives k hm)
        have hn := sectB_n (no0 + k) (lf k) _ hc48
        have ho := sectB_own (no0 + k) (lf k) _ hc48
        rw [hs]
        have hstep : (L.str S k).step (no0 + k) (sectB (no0 + k) (lf k) ((bs.drop (48 * k)).take 48)) = ⟨(L.str S k).out ++ ((bs.drop (48 * k)).take 48), lf k, max (L.str S k).ml (lf k), (((((bs.drop (48 * k)).take 48).length : Nat) : Int) == 48)⟩ := by
          unfold St.step
          rw [if_pos ⟨h2, hg, hno, by rw [hli]; exact h4 k (Nat.le_refl _) hm⟩, ho, hli, hn]
        rw [hstep]
        have hout : (L.str S k).out ++ ((bs.drop (48 * k)).take 48) = bs.take (48 * (k + 1)) := by
          rw [h3, show 48 * (k + 1) = 48 * k + 48 from by omega, List.take_add]
        by_cases hfull : 48 * (k + 1) ≤ bs.length
        · refine .inl ⟨hfull, ?_, hout, fun i hi hi2 => h.mono k i (by omega) hi2⟩
          show (_ == _) = true
          rw [beq_iff_eq]; omega
        · refine .inr ⟨?_, ?_⟩
          · show (_ == _) = false
            rw [beq_eq_false_iff_ne]; omega
          · show (L.str S k).out ++ _ = bs
            rw [hout, List.take_of_length_le (by omega)]
      · have hl := h.long
        have e1 : k = m := by
          have : 48 * k ≤ 48 * m := by omega
          omega
        subst e1
        have hst := h.stop (by omega) (by omega)
        refine .inr ⟨?_, ?_⟩
        · unfold St.step
          rw [if_neg (fun hc => hst ⟨hc.2.1, hc.2.2.1⟩)]
        · unfold St.step
          rw [if_neg (fun hc => hst ⟨hc.2.1, hc.2.2.1⟩)]
          show (L.str S k).out = bs
          rw [h3, List.take_of_length_le (by omega)]
    · unfold St.step
      rw [if_neg (fun hc => by rw [h1] at hc; cases hc.1)]
      exact .inr ⟨rfl, h2⟩
theorem Sects.bytes {S : DS} {L : LS} {no0 : Nat} {bs : List UInt8} {m : Nat} {lf : Nat → Nat} (h : Sects S L no0 bs m lf) (hf : L.fin / 48 = no0) : L.bytes S = bs.drop (L.fin % 48) := by
  unfold LS.bytes
  rcases h.str hf (L.n - 2) (Nat.le_refl _) with ⟨h1, _, h3, _⟩ | ⟨_, h2⟩
  · have := h.long
    have := h.fit
    rw [h3, List.take_of_length_le (by omega)]
  · rw [h2]
end Go.Proofs.YtccmmnacejdeoaaGreatDoor

/-
  sort.Search over a closure that only reads; where in a log the record stands that ends behind a place.
-/
namespace Go.Proofs.YtccmmnacejdeoaaGreatDoor
set_option linter.unusedSimpArgs false
set_option linter.unusedVariables false
open Go.RowKit

theorem drewN_drewN (w : World) (a b : Nat) : (w.drewN a).drewN b = w.drewN (a + b) := by
  unfold World.drewN
  simp only [Nat.add_assoc]
set_option maxHeartbeats 800000 in
set_option maxRecDepth 100000 in
/-- sort.Search, over a predicate that rises. -/
theorem Search_any (gf : Nat) (cb : Array Value) (n : Nat) (p : Nat → Bool) (w : World) (hn : n < 4611686018427387904) (eg : ∀ args w, (callFunc gf args).run Tryz.prog w = .ok (.enter gf args) w)
    (hp : ∀ i, i < n → ∀ m, Calls Tryz.prog gf (#[.int .i64 i] ++ cb) (w.drewN m) fun e w' => e = .returned (.bool (p i)) ∧ ∃ q, w' = w.drewN q) (hm : ∀ i j, i ≤ j → j < n → p i = true → p j = true) :
    Calls Tryz.prog 92 #[.int .i64 n, .func (.func gf) #[] cb] w fun e w' => ∃ k : Nat, k ≤ n ∧ e = .returned (.int .i64 k) ∧ (∀ i, i < k → p i = false) ∧ (k < n → p k = true) ∧ ∃ q, w' = w.drewN q := by
  have HP := Lib.hid hp
  have HM := Lib.hid hm
  clear hp hm
  go_enter Tryz.func92, Tryz.ntmps92
  go_wp2
  go_loopw [5, 6, 7] (fun i j _ wr => ∃ a b : Nat, a ≤ b ∧ b ≤ n ∧ i = .int .i64 a ∧ j = .int .i64 b ∧ Hid (∀ x, x < a → p x = false) ∧ Hid (b < n → p b = true) ∧ Hid (∃ q, wr = w.drewN q)) (fun i j _ _ => (intOf j).toNat - (intOf i).toNat)
  case atStart => exact ⟨0, n, by omega, by omega, rfl, rfl, (fun x h => absurd h (by omega)), (fun h => absurd h (by omega)), ⟨0, rfl⟩⟩
  case round =>
    obtain ⟨a, b, hab, hbn, rfl, rfl, h1, h2, h3⟩ := hrel
    by_cases hlt : a < b
    · obtain ⟨q, rfl⟩ := h3.out
      have hmid : (a + b) / 2 < n := by omega
      have hp1 := HP.out ((a + b) / 2) hmid q
      have e1 : IntKind.i64.wrap ((a : Int) + (b : Int)) = (a : Int) + (b : Int) := by rw [IntKind.wrap_i64]; omega
      have e2 : IntKind.u64.wrap ((a : Int) + (b : Int)) = (a : Int) + (b : Int) := by rw [IntKind.wrap_u64]; omega
      have e3 : (((a + b) / 2 : Nat) : Int) = ((a : Int) + (b : Int)) / 2 := by omega
      rw [e3] at hp1
      have HP1 := Lib.hid hp1
      have HE3 := Lib.hid e3
      have hge : (a : Int) ≤ ((a : Int) + (b : Int)) / 2 := by omega
      have hlt2 : ((a : Int) + (b : Int)) / 2 < (b : Int) := by omega
      clear hp1 e3
      go_wp2_with fail
      refine HP1.out.mono ?_
      rintro e w' ⟨rfl, q2, rfl⟩
      cases hpm : p ((a + b) / 2)
      · have HN : Hid (∀ x, x < (a + b) / 2 + 1 → p x = false) := by
          intro x hx
          rcases Nat.lt_or_ge x a with h | h
          · exact h1.out x h
          · cases hpx : p x with
            | false => rfl
            | true => rw [HM.out x ((a + b) / 2) (by omega) hmid hpx] at hpm; cases hpm
        clear hpm
        go_wp2
        go_roundw
        case rel => exact ⟨(a + b) / 2 + 1, b, by omega, hbn, by have := HE3.out; rw [show (((a + b) / 2 + 1 : Nat) : Int) = ((a : Int) + (b : Int)) / 2 + 1 from by omega], rfl, HN, h2, ⟨q2, rfl⟩⟩
        case measure => simp [intOf]; omega
      · have HN : Hid ((a + b) / 2 < n → p ((a + b) / 2) = true) := fun _ => hpm
        clear hpm
        go_wp2
        go_roundw
        case rel => exact ⟨a, (a + b) / 2, by omega, by omega, rfl, by have := HE3.out; rw [show (((a + b) / 2 : Nat) : Int) = ((a : Int) + (b : Int)) / 2 from by omega], h1, HN, ⟨q2, rfl⟩⟩
        case measure => simp [intOf]; omega
    · obtain rfl : a = b := by omega
      go_wp2
      go_ret
      exact ⟨a, hbn, rfl, h1.out, h2.out, h3.out⟩

/-- Where a record ends. -/
def LS.endOf (L : LS) (i : Nat) : Nat := (L.l.getD i ([], 0)).2 + (16 + (L.l.getD i ([], 0)).1.length)

/-- What is known of a record in memory. -/
theorem LogAt.rec_at {R : Nat → Prop} {w : World} {p d : Nat} {L : LS} {lv : Value} {rv : List (Value × Nat)} (h : LogAt R w p d lv rv L) (i : Nat) (hi : i < L.l.length) :
    ∃ g o c gr c2, lv = .slice (some ⟨g, o, none⟩) L.l.length c ∧ w.cell? ⟨g, o + i * 2, none⟩ = some (.slice (some ⟨gr, 0, none⟩) L.l[i].1.length c2) ∧ w.cell? ⟨g, o + i * 2 + 1, none⟩ = some (.int .u64 L.l[i].2) ∧ RecIn R w (.slice (some ⟨gr, 0, none⟩) L.l[i].1.length c2) L.l[i].1 ∧ g < w.heap.size ∧ R g := by
  obtain ⟨g, o, cap, e, hg, _⟩ := h.own.form (by omega)
  have hiv : i < rv.length := by rw [h.recs.1]; exact hi
  have hx := recCells_get rv i hiv
  have d0 := h.own
  rw [e] at d0
  have c0 := d0.cellAt (i * 2) (by omega)
  have c1 := d0.cellAt (i * 2 + 1) (by omega)
  rw [hx.1] at c0
  rw [hx.2, ← Nat.add_assoc] at c1
  obtain ⟨e1, _, e3⟩ := h.recs.2 i rv[i] L.l[i] (List.getElem?_eq_getElem hiv) (List.getElem?_eq_getElem hi)
  obtain ⟨gr, c2, ev⟩ : ∃ gr c2, rv[i].1 = .slice (some ⟨gr, 0, none⟩) L.l[i].1.length c2 := by
    rcases e3.1.2 with ⟨e, e0⟩ | ⟨g, cap, cur, e, _⟩
    · exact absurd e (h.nn _ (List.getElem_mem hiv))
    · exact ⟨_, _, e⟩
  rw [ev] at c0 e3
  rw [e1] at c1
  exact ⟨g, o, cap, gr, c2, e, c0, c1, e3, hg, h.rl g (by rw [e]; rfl)⟩

set_option maxHeartbeats 800000 in
set_option maxRecDepth 100000 in
theorem bytes1_any {R : Nat → Prop} {w : World} {p d : Nat} {L : LS} (B1 B2 fr : Nat) (h : LogOk R w p d L) (h1 : w.cell? ⟨B1, 0, none⟩ = some (.pointer (some ⟨p, 0, none⟩))) (h2 : w.cell? ⟨B2, 0, none⟩ = some (.int .u64 fr))
    (hfr : fr < 18446744073709551616) (i : Nat) (hi : i < L.l.length) (hll : L.l.length < 4000000000) (he : L.endOf i < 18446744073709551616) (hbl : L.l[i].1.length ≤ 3000000000) :
    Calls Tryz.prog 93 #[.int .i64 i, .pointer (some ⟨B1, 0, none⟩), .pointer (some ⟨B2, 0, none⟩)] w fun e w' => e = .returned (.bool (decide (fr < L.endOf i))) ∧ w' = w.drewN 1 := by
  obtain ⟨lv, rv, h⟩ := h
  obtain ⟨g, o, c, gr, c2, rfl, d0, d1, _, hg, _⟩ := h.rec_at i hi
  have c6 := h.blk.cell 6
  have hp := h.blk.lt
  simp only [List.getElem?_toArray, List.getElem?_cons_zero, List.getElem?_cons_succ] at c6
  clear h
  have hend : L.endOf i = L.l[i].2 + (16 + L.l[i].1.length) := by
    unfold LS.endOf
    rw [List.getD_eq_getElem?_getD, List.getElem?_eq_getElem hi]; rfl
  rw [hend] at he
  have HE := Lib.hid hend
  clear hend
  obtain ⟨n, hn⟩ : ∃ n, L.l.length = n := ⟨_, rfl⟩
  obtain ⟨a, ha⟩ : ∃ a, L.l[i].2 = a := ⟨_, rfl⟩
  obtain ⟨b, hb⟩ : ∃ b, L.l[i].1.length = b := ⟨_, rfl⟩
  rw [ha] at d1
  rw [hb] at d0 hbl
  rw [ha, hb] at he HE
  rw [hn] at c6 hi hll
  clear hn ha hb
  go_enter Tryz.func93, Tryz.ntmps93
  go_wp2
  have hS : w.drew = w.drew := rfl
  refine Rg.begin (fun W => W = w.drew) [] (by kernel_rfl) ?_
  refine Rg.op 0 (some 5) hS (v := ?v0) (hy := fun wz hwz => ?h0) (h := ?_)
  case h0 => (obtain rfl := hwz; go_simp; try with_reducible rfl)
  refine Rg.op 1 (some 6) hS (v := ?v1) (hy := fun wz hwz => ?h1) (h := ?_)
  case h1 => (obtain rfl := hwz; go_simp; try with_reducible rfl)
  refine Rg.op 2 (some 7) hS (v := ?v2) (hy := fun wz hwz => ?h2) (h := ?_)
  case h2 => (go_simp; try with_reducible rfl)
  refine Rg.op 3 (some 8) hS (v := ?v3) (hy := fun wz hwz => ?h3) (h := ?_)
  case h3 => (obtain rfl := hwz; go_simp; try with_reducible rfl)
  refine Rg.op 4 (some 9) hS (v := ?v4) (hy := fun wz hwz => ?h4) (h := ?_)
  case h4 => (go_simp; try with_reducible rfl)
  refine Rg.op 5 (some 10) hS (v := ?v5) (hy := fun wz hwz => ?h5) (h := ?_)
  case h5 => (obtain rfl := hwz; have u1 : (0 : Int) ≤ (i : Int) := (by omega); have u2 : (i : Int) < (n : Int) := (by omega); go_simp; try with_reducible rfl)
  refine Rg.op 6 (some 11) hS (v := ?v6) (hy := fun wz hwz => ?h6) (h := ?_)
  case h6 => (go_simp; try with_reducible rfl)
  refine Rg.op 7 (some 12) hS (v := ?v7) (hy := fun wz hwz => ?h7) (h := ?_)
  case h7 => (obtain rfl := hwz; go_simp; try with_reducible rfl)
  refine Rg.op 8 (some 13) hS (v := ?v8) (hy := fun wz hwz => ?h8) (h := ?_)
  case h8 => (obtain rfl := hwz; go_simp; try with_reducible rfl)
  refine Rg.op 9 (some 14) hS (v := ?v9) (hy := fun wz hwz => ?h9) (h := ?_)
  case h9 => (obtain rfl := hwz; go_simp; try with_reducible rfl)
  refine Rg.op 10 (some 15) hS (v := ?v10) (hy := fun wz hwz => ?h10) (h := ?_)
  case h10 => (go_simp; try with_reducible rfl)
  refine Rg.op 11 (some 16) hS (v := ?v11) (hy := fun wz hwz => ?h11) (h := ?_)
  case h11 => (obtain rfl := hwz; go_simp; try with_reducible rfl)
  refine Rg.op 12 (some 17) hS (v := ?v12) (hy := fun wz hwz => ?h12) (h := ?_)
  case h12 => (go_simp; try with_reducible rfl)
  refine Rg.op 13 (some 18) hS (v := ?v13) (hy := fun wz hwz => ?h13) (h := ?_)
  case h13 => (obtain rfl := hwz; have u1 : (0 : Int) ≤ (i : Int) := (by omega); have u2 : (i : Int) < (n : Int) := (by omega); go_simp; try with_reducible rfl)
  refine Rg.op 14 (some 19) hS (v := ?v14) (hy := fun wz hwz => ?h14) (h := ?_)
  case h14 => (go_simp; try with_reducible rfl)
  refine Rg.op 15 (some 20) hS (v := ?v15) (hy := fun wz hwz => ?h15) (h := ?_)
  case h15 => (obtain rfl := hwz; go_simp; try with_reducible rfl)
  refine Rg.op 16 (some 21) hS (v := ?v16) (hy := fun wz hwz => ?h16) (h := ?_)
  case h16 => (go_simp; try with_reducible rfl)
  refine Rg.op 17 (some 22) hS (v := ?v17) (hy := fun wz hwz => ?h17) (h := ?_)
  case h17 => (have u3 : IntKind.i64.wrap (16 + (b : Int)) = 16 + (b : Int) := (by rw [IntKind.wrap_i64]; omega); go_simp; try with_reducible rfl)
  refine Rg.op 18 (some 23) hS (v := ?v18) (hy := fun wz hwz => ?h18) (h := ?_)
  case h18 => (have u4 : IntKind.u64.wrap (16 + (b : Int)) = 16 + (b : Int) := (by rw [IntKind.wrap_u64]; omega); go_simp; try with_reducible rfl)
  refine Rg.op 19 (some 24) hS (v := (.int .u64 ((a + (16 + b) : Nat) : Int))) (hy := fun wz hwz => ?h19) (h := ?_)
  case h19 => (have u5 : IntKind.u64.wrap ((a : Int) + (16 + (b : Int))) = ((a + (16 + b) : Nat) : Int) := (by rw [IntKind.wrap_u64]; omega); go_simp; try with_reducible rfl)
  refine Rg.op 20 (some 25) hS (v := ?v20) (hy := fun wz hwz => ?h20) (h := ?_)
  case h20 => (obtain rfl := hwz; go_simp; try with_reducible rfl)
  refine Rg.op 21 (some 26) hS (v := (.bool (decide (fr < a + (16 + b))))) (hy := fun wz hwz => ?h21) (h := ?_)
  case h21 => (go_simp; omega)
  refine Rg.op 22 (some 4) hS (v := ?v22) (hy := fun wz hwz => ?h22) (h := ?_)
  case h22 => (go_simp; try with_reducible rfl)
  refine Rg.done _ (h := ?_)
  go_wp2
  go_ret
  exact ⟨by rw [HE.out]; rfl, rfl⟩
end Go.Proofs.YtccmmnacejdeoaaGreatDoor

/-
  The bytes of a log's records from a place on.
-/
namespace Go.Proofs.YtccmmnacejdeoaaGreatDoor
set_option linter.unusedSimpArgs false
set_option linter.unusedVariables false
open Go.RowKit

def LS.rs (L : LS) : List (List UInt8) := L.l.map (·.1)
/-- The records stand one behind the other, from a0 on. -/
structure LS.Laid (L : LS) (a0 : Nat) : Prop where
  at_ : ∀ i (h : i < L.l.length), L.l[i].2 = a0 + sizes (L.rs.take i)
  fin : L.fin = a0 + sizes L.rs
theorem LS.rs_length (L : LS) : L.rs.length = L.l.length := by simp [LS.rs]
theorem sizes_take_mono (rs : List (List UInt8)) {i j : Nat} (h : i ≤ j) : sizes (rs.take i) ≤ sizes (rs.take j) := by
  have : rs.take j = rs.take i ++ (rs.take j).drop i := by
    have := List.take_append_drop i (rs.take j)
    rw [List.take_take, Nat.min_eq_left h] at this
    exact this.symm
  rw [this, sizes_append]; omega
theorem sizes_take_le (rs : List (List UInt8)) (i : Nat) : sizes (rs.take i) ≤ sizes rs := by
  have := sizes_append (rs.take i) (rs.drop i)
  rw [List.take_append_drop] at this
  omega
theorem LS.Laid.endOf {L : LS} {a0 : Nat} (h : L.Laid a0) {i : Nat} (hi : i < L.l.length) : L.endOf i = a0 + sizes (L.rs.take (i + 1)) := by
  unfold LS.endOf
  rw [List.getD_eq_getElem?_getD, List.getElem?_eq_getElem hi]
  show L.l[i].2 + (16 + L.l[i].1.length) = _
  rw [h.at_ i hi, List.take_add_one, List.getElem?_eq_getElem (by rw [LS.rs_length]; exact hi), sizes_append]
  have e : (L.rs[i]'(by rw [LS.rs_length]; exact hi)) = L.l[i].1 := by simp [LS.rs]
  rw [e]
  simp [sizes]; omega
theorem frames_take (rs : List (List UInt8)) (x k : Nat) (h : k ≤ rs.length) : frames x rs = frames x (rs.take k) ++ frames (x + k) (rs.drop k) := by
  conv => lhs; rw [← List.take_append_drop k rs]
  rw [frames_append, List.length_take, Nat.min_eq_left h]
theorem frames_take_length (rs : List (List UInt8)) (x k : Nat) : (frames x (rs.take k)).length = sizes (rs.take k) := frames_length _ _
/-- A log's bytes from a place on. -/
def LS.tail (L : LS) (a0 fr : Nat) : List UInt8 := (frames L.first L.rs).drop (fr - a0)
/-- What is behind a place, by the record in which it lies. -/
theorem LS.Laid.rest {L : LS} {a0 : Nat} (h : L.Laid a0) {fr k : Nat} (hk : k < L.l.length) (h1 : L.l[k].2 ≤ fr) : (frames (L.first + k) (L.rs.drop k)).drop (fr - L.l[k].2) = L.tail a0 fr := by
  unfold LS.tail
  have ea := h.at_ k hk
  have e : (frames L.first L.rs).drop (fr - a0) = (frames (L.first + k) (L.rs.drop k)).drop (fr - a0 - sizes (L.rs.take k)) := by
    rw [frames_take L.rs L.first k (by rw [LS.rs_length]; omega), List.drop_append, frames_take_length, List.drop_eq_nil_of_le (by rw [frames_take_length]; omega), List.nil_append]
  rw [e]
  congr 1; omega
theorem LS.Laid.none {L : LS} {a0 : Nat} (h : L.Laid a0) {fr : Nat} (h1 : L.fin ≤ fr) : L.tail a0 fr = [] := by
  unfold LS.tail
  have := h.fin
  exact List.drop_eq_nil_of_le (by rw [frames_length]; omega)

theorem sizes_bound (rs : List (List UInt8)) (h : ∀ r ∈ rs, r.length ≤ 2000) : sizes rs ≤ 2016 * rs.length := by
  induction rs with
  | nil => simp [sizes]
  | cons r rs ih =>
    have h1 := h r (List.mem_cons_self ..)
    have h2 := ih (fun x hx => h x (List.mem_cons_of_mem _ hx))
    simp only [sizes, List.map_cons, List.sum_cons, List.length_cons] at h2 ⊢
    omega
set_option maxHeartbeats 3200000 in
set_option maxRecDepth 100000 in
theorem bytes_any {R : Nat → Prop} {w : World} {p d : Nat} {L : LS} {a0 : Nat} (fr : Nat) (h : LogOk R w p d L) (hl : L.Laid a0) (ha : a0 ≤ fr) (hfr : fr ≤ L.fin) (hll : L.l.length < 4000000) (hsm : ∀ x ∈ L.l, x.1.length ≤ 2000) (hfirst : L.first + L.l.length < 18446744073709551616) :
    Calls Tryz.prog 76 #[.pointer (some ⟨p, 0, none⟩), .int .u64 fr] w fun e w' => ∃ A c, e = .returned (.slice A (L.tail a0 fr).length c) ∧ BytesIn w' A (L.tail a0 fr) ∧ (L.tail a0 fr).length ≤ c ∧ (∀ a, A = some a → w.heap.size ≤ a.block ∧ a.block < w'.heap.size) ∧ Fr Nob w w' := by
  obtain ⟨i0, hi0, hz0, hz1, hz2⟩ := info_parts info_u8
  obtain ⟨W0, hW0⟩ : ∃ W0, (w.alloc (.cells #[.pointer (some ⟨p, 0, none⟩)] 31)).alloc (.cells #[.int .u64 fr] 22) = W0 := ⟨_, rfl⟩
  have hF0 : Fr Nob w W0 := by rw [← hW0]; exact ((Fr.refl _ w).alloc _).alloc _
  have hb1 : Blk W0 w.heap.size 31 #[.pointer (some ⟨p, 0, none⟩)] := by rw [← hW0]; exact (Blk.new w _ _).alloc _
  have hb2 : Blk W0 (w.heap.size + 1) 22 #[.int .u64 fr] := by
    rw [← hW0]
    have := Blk.new (w.alloc (.cells #[.pointer (some ⟨p, 0, none⟩)] 31)) 22 #[.int .u64 fr]
    rwa [World.size_alloc] at this
  have hfin := hl.fin
  obtain ⟨lv, rv, hL⟩ := h
  have hb4 := hL.b4
  have hL0 := hL.fr hF0 (fun _ _ h => h)
  obtain ⟨A, c, hlv⟩ : ∃ A c, lv = .slice A L.l.length c := by
    rcases hL.own.2 with ⟨e, e2⟩ | ⟨g, o, cap, cur, e, _⟩
    · rw [e2]; exact ⟨_, _, e⟩
    · exact ⟨_, _, e⟩
  have HLv := Lib.hid hlv
  have HSr := Lib.hid (Search_any 93 #[.pointer (some ⟨w.heap.size, 0, none⟩), .pointer (some ⟨w.heap.size + 1, 0, none⟩)] L.l.length (fun i => decide (fr < L.endOf i)) W0 (by omega) (enters_of Tryz.func93 (by kernel_rfl) rfl)
    (fun i hi m => (bytes1_any w.heap.size (w.heap.size + 1) fr (LogOk.drewN (R := R) (w := W0) (p := p) (d := d) (L := L) ⟨lv, rv, hL0⟩ m) (hb1.cell 0) (hb2.cell 0) (by omega) i hi (by omega) (by rw [hl.endOf hi]; have := sizes_take_le L.rs (i + 1); omega) (by have := hsm _ (List.getElem_mem hi); omega)).mono (by rintro e w' ⟨rfl, rfl⟩; exact ⟨rfl, m + 1, drewN_drewN W0 m 1⟩))
    (fun i j hij hj hp => by
      simp only [decide_eq_true_eq] at hp ⊢
      rw [hl.endOf hj]
      rw [hl.endOf (by omega)] at hp
      have := sizes_take_mono L.rs (show i + 1 ≤ j + 1 by omega)
      omega))
  have HL0 := Lib.hid hL0
  have HB1 := Lib.hid hb1
  have HB2 := Lib.hid hb2
  have HF0 := Lib.hid hF0
  have HLd := Lib.hid hl
  have HSm := Lib.hid hsm
  have q0 : W0.cell? ⟨w.heap.size, 0, none⟩ = some (.pointer (some ⟨p, 0, none⟩)) := hb1.cell 0
  have q6 : W0.cell? ⟨p, 6, none⟩ = some (.slice A L.l.length c) := by rw [← hlv]; exact hL0.blk.cell 6
  have hpz := hL0.blk.lt
  have hzW : W0.heap.size = w.heap.size + 2 := by rw [← hW0]; simp
  clear hL hL0 hb1 hb2 hF0 hl hsm hlv
  go_enter Tryz.func76, Tryz.ntmps76
  go_wp2_with fail
  refine HSr.out.mono ?_
  rintro e w1 ⟨k, hk, rfl, hk1, hk2, q, hw1⟩
  have hF1 : Fr Nob W0 w1 := by rw [hw1]; exact (Fr.refl _ W0).drewN q
  have hz1' : w1.heap.size = w.heap.size + 2 := by rw [hw1]; exact hzW
  have HB11 := Lib.hid (HB1.out.fr hF1 (fun h => h))
  have HB21 := Lib.hid (HB2.out.fr hF1 (fun h => h))
  have HL1 := Lib.hid (HL0.out.fr hF1 (fun _ _ h => h))
  have HF1 := Lib.hid (HF0.out.trans hF1)
  have HK1 : Hid (∀ i, i < k → L.endOf i ≤ fr) := fun i hi => by have := hk1 i hi; simp only [decide_eq_false_iff_not] at this; omega
  have HK2 : Hid (k < L.l.length → fr < L.endOf k) := fun h => by have := hk2 h; simpa using this
  clear hk1 hk2 hw1 hF1 HSr q0 q6 HB1 HB2 HL0 HF0
  obtain ⟨n, hn⟩ : ∃ n, L.l.length = n := ⟨_, rfl⟩
  have HN := Lib.hid hn
  rw [hn] at hk hll hfirst ⊢
  clear hn
  go_wp2
  go_loopw [5, 7] (fun out x wr => ∃ i : Nat, k ≤ i ∧ i ≤ n ∧ x = .int .i64 i ∧ Hid (wr.ownsRow (w.heap.size + 2) 5 1 out (frames (L.first + k) ((L.rs.drop k).take (i - k))).length (bts (frames (L.first + k) ((L.rs.drop k).take (i - k))))) ∧ Hid (Fr Nob w1 wr)) (fun _ i _ => n - (intOf i).toNat)
  case atStart => exact ⟨k, Nat.le_refl _, hk, rfl, (by rw [Nat.sub_self, List.take_zero]; exact World.ownsRow_nil _ _ _ _), Fr.refl _ _⟩
  case round =>
    obtain ⟨i, hki, hin, rfl, hO, hF⟩ := hrel
    have hFz := hF.out.size
    have hbr1 := HB11.out.fr hF.out (fun h => h)
    have hlr := HL1.out.fr hF.out (fun _ _ h => h)
    have r0 : wr.cell? ⟨w.heap.size, 0, none⟩ = some (.pointer (some ⟨p, 0, none⟩)) := hbr1.cell 0
    have r6 : wr.cell? ⟨p, 6, none⟩ = some (.slice A n c) := by rw [← HN.out, ← HLv.out]; exact hlr.blk.cell 6
    have hpr := hlr.blk.lt
    clear hbr1 hlr
    by_cases hlt : i < n
    · have hil : i < L.l.length := by rw [HN.out]; exact hlt
      obtain ⟨g, o, c', gr, c2, elv, d0, d1, hrec, hg, _⟩ := HL1.out.rec_at i hil
      rw [HLv.out] at elv
      injection elv with e1 _ e3
      subst e1 e3
      obtain ⟨b, hb⟩ : ∃ b, L.l[i].1 = b := ⟨_, rfl⟩
      rw [hb] at d0 hrec
      have hsmb : b.length ≤ 2000 := by rw [← hb]; exact HSm.out _ (List.getElem_mem hil)
      have hnext : (L.rs.drop k).take (i + 1 - k) = (L.rs.drop k).take (i - k) ++ [b] := by
        rw [show i + 1 - k = (i - k) + 1 from by omega, List.take_add_one, List.getElem?_drop, show k + (i - k) = i from by omega, List.getElem?_eq_getElem (by rw [LS.rs_length]; exact hil)]
        simp [LS.rs, hb]
      have hfr2 : frames (L.first + k) ((L.rs.drop k).take (i + 1 - k)) = frames (L.first + k) ((L.rs.drop k).take (i - k)) ++ fraB (L.first + i) b := by
        rw [hnext, frames_append, List.length_take, List.length_drop, LS.rs_length, show min (i - k) (L.l.length - k) = i - k from by omega, show L.first + k + (i - k) = L.first + i from by omega]
        simp [frames]
      have hsz : (frames (L.first + k) ((L.rs.drop k).take (i - k))).length ≤ 2016 * 4000000 := by
        rw [frames_length]
        refine Nat.le_trans (sizes_bound _ (fun r hr => ?_)) ?_
        · have hr1 := List.mem_of_mem_drop (List.mem_of_mem_take hr)
          unfold LS.rs at hr1
          obtain ⟨x, hx, rfl⟩ := List.mem_map.1 hr1
          exact HSm.out x hx
        · rw [List.length_take, List.length_drop, LS.rs_length, HN.out]; omega
      obtain ⟨bs, hbs⟩ : ∃ bs, frames (L.first + k) ((L.rs.drop k).take (i - k)) = bs := ⟨_, rfl⟩
      rw [hbs] at hfr2 hO hsz
      have HFr2 := Lib.hid hfr2
      have HRec := Lib.hid hrec
      have HD0 := Lib.hid d0
      clear hfr2 hrec d0 d1 hnext hbs hb
      obtain ⟨bl, hbl⟩ : ∃ bl, b.length = bl := ⟨_, rfl⟩
      have HBl := Lib.hid hbl
      rw [hbl] at HD0 hsmb
      clear hbl
      go_wp2
      clear r0 r6
      have hS : Fr Nob w1 wr.drew := hF.out.drew
      refine Rg.begin' (Fr Nob w1) [] (by kernel_rfl) ?_
      refine Rg.op 0 (some 25) hS (v := ?v0) (hy := fun wz hwz => ?h0) (h := ?_)
      case h0 => (go_simp; try with_reducible rfl)
      refine Rg.op 1 (some 26) hS (v := ?v1) (hy := fun wz hwz => ?h1) (h := ?_)
      case h1 => (have hb := (HB11.out.fr hwz (fun h => h)); have c0 := hb.cell 0; simp only [List.getElem?_toArray, List.getElem?_cons_zero, List.getElem?_cons_succ] at c0; clear hb; go_simp; try with_reducible rfl)
      refine Rg.op 2 (some 27) hS (v := ?v2) (hy := fun wz hwz => ?h2) (h := ?_)
      case h2 => (have hb := (HL1.out.blk.fr hwz (fun h => h)); have c6 := hb.cell 6; have hp := hb.lt; simp only [List.getElem?_toArray, List.getElem?_cons_zero, List.getElem?_cons_succ] at c6; clear hb; rw [HLv.out, HN.out] at c6; go_simp; try with_reducible rfl)
      refine Rg.op 3 (some 28) hS (v := ?v3) (hy := fun wz hwz => ?h3) (h := ?_)
      case h3 => (go_simp; try with_reducible rfl)
      refine Rg.op 4 (some 29) hS (v := ?v4) (hy := fun wz hwz => ?h4) (h := ?_)
      case h4 => (have hb := (HL1.out.blk.fr hwz (fun h => h)); have c3 := hb.cell 3; have hp := hb.lt; simp only [List.getElem?_toArray, List.getElem?_cons_zero, List.getElem?_cons_succ] at c3; clear hb; go_simp; try with_reducible rfl)
      refine Rg.op 5 (some 30) hS (v := ?v5) (hy := fun wz hwz => ?h5) (h := ?_)
      case h5 => (go_simp; try with_reducible rfl)
      refine Rg.op 6 (some 31) hS (v := ?v6) (hy := fun wz hwz => ?h6) (h := ?_)
      case h6 => (have u1 : IntKind.u64.wrap (i : Int) = (i : Int) := (by rw [IntKind.wrap_u64]; omega); go_simp; try with_reducible rfl)
      refine Rg.op 7 (some 32) hS (v := (.int .u64 ((L.first + i : Nat) : Int))) (hy := fun wz hwz => ?h7) (h := ?_)
      case h7 => (have u2 : IntKind.u64.wrap ((L.first : Int) + (i : Int)) = ((L.first + i : Nat) : Int) := (by rw [IntKind.wrap_u64]; omega); go_simp; try with_reducible rfl)
      refine Rg.op 8 (some 33) hS (v := ?v8) (hy := fun wz hwz => ?h8) (h := ?_)
      case h8 => (have hb := (HB11.out.fr hwz (fun h => h)); have c0 := hb.cell 0; simp only [List.getElem?_toArray, List.getElem?_cons_zero, List.getElem?_cons_succ] at c0; clear hb; go_simp; try with_reducible rfl)
      refine Rg.op 9 (some 34) hS (v := ?v9) (hy := fun wz hwz => ?h9) (h := ?_)
      case h9 => (have hb := (HL1.out.blk.fr hwz (fun h => h)); have c6 := hb.cell 6; have hp := hb.lt; simp only [List.getElem?_toArray, List.getElem?_cons_zero, List.getElem?_cons_succ] at c6; clear hb; rw [HLv.out, HN.out] at c6; go_simp; try with_reducible rfl)
      refine Rg.op 10 (some 35) hS (v := ?v10) (hy := fun wz hwz => ?h10) (h := ?_)
      case h10 => (go_simp; try with_reducible rfl)
      refine Rg.op 11 (some 36) hS (v := ?v11) (hy := fun wz hwz => ?h11) (h := ?_)
      case h11 => (have hb := (HL1.out.blk.fr hwz (fun h => h)); have c6 := hb.cell 6; have hp := hb.lt; simp only [List.getElem?_toArray, List.getElem?_cons_zero, List.getElem?_cons_succ] at c6; clear hb; rw [HLv.out, HN.out] at c6; go_simp; try with_reducible rfl)
      refine Rg.op 12 (some 37) hS (v := ?v12) (hy := fun wz hwz => ?h12) (h := ?_)
      case h12 => (go_simp; try with_reducible rfl)
      refine Rg.op 13 (some 38) hS (v := ?v13) (hy := fun wz hwz => ?h13) (h := ?_)
      case h13 => (have u3 : (0 : Int) ≤ (i : Int) := (by omega); have u4 : (i : Int) < (n : Int) := (by omega); go_simp; try with_reducible rfl)
      refine Rg.op 14 (some 39) hS (v := ?v14) (hy := fun wz hwz => ?h14) (h := ?_)
      case h14 => (go_simp; try with_reducible rfl)
      refine Rg.op 15 (some 40) hS (v := ?v15) (hy := fun wz hwz => ?h15) (h := ?_)
      case h15 => (have dr : wz.cell? ⟨g, o + i * 2, none⟩ = some (.slice (some ⟨gr, 0, none⟩) bl c2) := (hwz.cell (p := ⟨g, o + i * 2, none⟩) hg (fun h => h)).trans HD0.out; go_simp; try with_reducible rfl)
      have hfm := frame_any (L.first + i) ⟨gr, 0, none⟩ c2 b wr.drew (bytesIn_own (own_fr HRec.out.1 hS (fun _ _ h => h))) (by have := own_lt HRec.out.1 (g := gr) rfl; have := hS.size; show gr < _; omega) (by rw [HBl.out]; omega) (by omega)
      rw [HBl.out] at hfm
      have HFm := Lib.hid hfm
      clear hfm
      refine Rg.call 16 (some 41) (hrun := ?h16) (hcall := HFm.out) (h := ?_)
      case h16 => (go_simp)
      rintro e w5 ⟨v5, rfl, ho5, hf5⟩
      have hS5 : Fr Nob w1 w5 := hS.trans hf5
      obtain ⟨g5, cap5, rfl, _, hg5⟩ := ho5.form (by omega)
      have hO5 : Hid (w5.ownsRow (w.heap.size + 2) 5 1 u5 bs.length (bts bs)) := own_fr hO.out ((Fr.refl Nob wr).drew.trans hf5) (fun _ _ h => h)
      have c2x : Hid (∀ j u, (bts (fraB (L.first + i) b))[j]? = some u → w5.cell? ((⟨g5, 0, none⟩ : Addr).add j) = some u) := fun j u hu => bytesIn_cells (bytesIn_own ho5) j u hu
      have hfl : (fraB (L.first + i) b).length = 16 + bl := by rw [fraB_length, HBl.out]
      have hz5 : w.heap.size + 2 ≤ w5.heap.size := by have := hS5.size; omega
      obtain ⟨v7, w7, hrun7, hown7, hgr7, hn7, hat7⟩ := run_append_own_at (P := Tryz.prog) w5 (w.heap.size + 2) 38 38 5 i0 (.int .u8 0) 1 1 Tryz.underlying38 hi0 hz0 hz1 hz2 rfl (by decide) u5 bs.length (bts bs) hO5.out ⟨g5, 0, none⟩ (16 + bl) cap5 (bts (fraB (L.first + i) b)) (by rw [bts_length, hfl]; omega) c2x.out (bts_one _) (by unfold maxLen; omega) (by omega) hz5
      have HR7 := Lib.hid hrun7
      have hbs5 := (hO.out.lt)
      have HF7 : Hid (Fr Nob w1 w7) := Fr.grown hS5 hgr7 (fun x hx => .inl (by have := (hO.out.lt x hx).1; omega))
      have HO7 : Hid (w7.ownsRow (w.heap.size + 2) 5 1 v7 (bs ++ fraB (L.first + i) b).length (bts (bs ++ fraB (L.first + i) b))) := by rw [List.length_append, hfl, bts_append]; exact hown7
      clear hrun7 hown7 hgr7 hn7 hat7 hbs5 ho5
      refine ⟨_, ?a16, rfl, ?b16, (fun _ => hS5), ?_⟩
      case b16 => (simp only [Act.put, List.setIfInBounds_toArray, List.set_cons_zero, List.set_cons_succ]; rfl)
      refine Rg.run 17 (some 42) (v := (v7)) (w' := (w7)) (hrun := ?h17) (hS := (fun _ => HF7.out)) (h := ?_)
      case h17 => exact run_opAppend (.tmp 25) (.tmp 41) 38 38 u5 (.slice (some ⟨g5, 0, none⟩) (16 + bl) cap5) rfl rfl rfl rfl HR7.out
      refine Rg.op 18 (some 5) HF7.out (v := ?v18) (hy := fun wz hwz => ?h18) (h := ?_)
      case h18 => (go_simp; try with_reducible rfl)
      refine Rg.done _ (h := ?_)
      go_wp2
      go_roundw
      case rel => exact ⟨i + 1, by omega, by omega, by go_num, by rw [HFr2.out]; exact HO7, HF7⟩
      case measure => simp [intOf]; omega
    · obtain rfl : i = n := by omega
      have hlast : (L.rs.drop k).take (i - k) = L.rs.drop k := List.take_of_length_le (by rw [List.length_drop, LS.rs_length, HN.out]; omega)
      rw [hlast] at hO
      clear hlast
      have hFr : Fr Nob w wr := HF1.out.trans hF.out
      have HFr := Lib.hid hFr
      go_wp2
      clear r0 r6
      have hS : Fr Nob w1 wr.drew := hF.out.drew
      by_cases hkn : k < i
      · have hkl : k < L.l.length := by rw [HN.out]; exact hkn
        have hk2 := HK2.out hkl
        have hrst := fun h1 => HLd.out.rest (fr := fr) hkl h1
        have hat := HLd.out.at_ k hkl
        have hend := HLd.out.endOf hkl
        have hprev : L.l[k].2 ≤ fr := by
          rcases Nat.eq_zero_or_pos k with h0 | h0
          · subst h0; rw [hat]; simp [sizes]; exact ha
          · have := HK1.out (k - 1) (by omega)
            rw [HLd.out.endOf (by omega), show k - 1 + 1 = k from by omega, ← hat] at this
            exact this
        have hlenb : sizes (L.rs.take (k + 1)) - sizes (L.rs.take k) ≤ (frames (L.first + k) (L.rs.drop k)).length := by
          have h1 := sizes_append (L.rs.take k) (L.rs.drop k)
          rw [List.take_append_drop] at h1
          have h2 := sizes_take_le L.rs (k + 1)
          rw [frames_length]
          omega
        obtain ⟨g, o, c', gr, c2, elv, _, d1, _, hg, _⟩ := HL1.out.rec_at k hkl
        rw [HLv.out] at elv
        injection elv with e1 _ e3
        subst e1 e3
        rw [hend] at hk2
        have hR0 := hrst hprev
        obtain ⟨a, haa⟩ : ∃ a, L.l[k].2 = a := ⟨_, rfl⟩
        rw [haa] at d1 hat hprev hR0
        have hafr : a ≤ fr := hprev
        have hb5 : fr - a < (frames (L.first + k) (L.rs.drop k)).length := by omega
        obtain ⟨bs, hbs⟩ : ∃ bs, frames (L.first + k) (L.rs.drop k) = bs := ⟨_, rfl⟩
        rw [hbs] at hR0 hO hb5
        obtain ⟨g9, cap9, e9, _, hg9⟩ := hO.out.form (by omega)
        subst e9
        have hgw := (hO.out.lt g9 rfl)
        have hcap : bs.length ≤ cap9 := by
          rcases hO.out.2 with ⟨e, _⟩ | ⟨g', cap', cur, e, _, _, h5, _⟩
          · cases e
          · injection e with _ _ e; omega
        have HR0 := Lib.hid hR0
        have HD1 := Lib.hid d1
        obtain ⟨bl, hbl⟩ : ∃ bl, bs.length = bl := ⟨_, rfl⟩
        have HBl := Lib.hid hbl
        rw [hbl] at hb5 hcap ⊢
        have hafr2 : fr < 18446744073709551616 := by omega
        clear hrst hat hend hlenb hk2 hR0 d1 haa hbs hbl hprev
        have t0 : decide (k < i) = true := by simpa using hkn
        by_cases hlt2 : a < fr
        · have t1 : decide (a < fr) = true := by simpa using hlt2
          refine Rg.begin (Fr Nob w1) [] (by kernel_rfl) ?_
          refine Rg.op 0 (some 43) hS (v := ?v0a) (hy := fun wz hwz => ?h0a) (h := ?_)
          case h0a => (go_simp; try with_reducible rfl)
          refine Rg.op 1 (some 44) hS (v := ?v1a) (hy := fun wz hwz => ?h1a) (h := ?_)
          case h1a => (have hb := (HB11.out.fr hwz (fun h => h)); have c0 := hb.cell 0; simp only [List.getElem?_toArray, List.getElem?_cons_zero, List.getElem?_cons_succ] at c0; clear hb; go_simp; try with_reducible rfl)
          refine Rg.op 2 (some 45) hS (v := ?v2a) (hy := fun wz hwz => ?h2a) (h := ?_)
          case h2a => (have hb := (HL1.out.blk.fr hwz (fun h => h)); have c6 := hb.cell 6; have hp := hb.lt; simp only [List.getElem?_toArray, List.getElem?_cons_zero, List.getElem?_cons_succ] at c6; clear hb; rw [HLv.out, HN.out] at c6; go_simp; try with_reducible rfl)
          refine Rg.op 3 (some 46) hS (v := ?v3a) (hy := fun wz hwz => ?h3a) (h := ?_)
          case h3a => (go_simp; try with_reducible rfl)
          refine Rg.op 4 (some 47) hS (v := ?v4a) (hy := fun wz hwz => ?h4a) (h := ?_)
          case h4a => (have hb := (HL1.out.blk.fr hwz (fun h => h)); have c6 := hb.cell 6; have hp := hb.lt; simp only [List.getElem?_toArray, List.getElem?_cons_zero, List.getElem?_cons_succ] at c6; clear hb; rw [HLv.out, HN.out] at c6; go_simp; try with_reducible rfl)
          refine Rg.op 5 (some 48) hS (v := ?v5a) (hy := fun wz hwz => ?h5a) (h := ?_)
          case h5a => (go_simp; try with_reducible rfl)
          refine Rg.op 6 (some 49) hS (v := (.bool true)) (hy := fun wz hwz => ?h6a) (h := ?_)
          case h6a => (go_simp; try with_reducible rfl)
          refine Rg.op 7 (some 50) hS (v := ?v7a) (hy := fun wz hwz => ?h7a) (h := ?_)
          case h7a => (go_simp; try with_reducible rfl)
          refine Rg.op 8 (some 51) hS (v := ?v8a) (hy := fun wz hwz => ?h8a) (h := ?_)
          case h8a => (have hb := (HB11.out.fr hwz (fun h => h)); have c0 := hb.cell 0; simp only [List.getElem?_toArray, List.getElem?_cons_zero, List.getElem?_cons_succ] at c0; clear hb; go_simp; try with_reducible rfl)
          refine Rg.op 9 (some 52) hS (v := ?v9a) (hy := fun wz hwz => ?h9a) (h := ?_)
          case h9a => (have hb := (HL1.out.blk.fr hwz (fun h => h)); have c6 := hb.cell 6; have hp := hb.lt; simp only [List.getElem?_toArray, List.getElem?_cons_zero, List.getElem?_cons_succ] at c6; clear hb; rw [HLv.out, HN.out] at c6; go_simp; try with_reducible rfl)
          refine Rg.op 10 (some 53) hS (v := ?v10a) (hy := fun wz hwz => ?h10a) (h := ?_)
          case h10a => (go_simp; try with_reducible rfl)
          refine Rg.op 11 (some 54) hS (v := ?v11a) (hy := fun wz hwz => ?h11a) (h := ?_)
          case h11a => (have hb := (HL1.out.blk.fr hwz (fun h => h)); have c6 := hb.cell 6; have hp := hb.lt; simp only [List.getElem?_toArray, List.getElem?_cons_zero, List.getElem?_cons_succ] at c6; clear hb; rw [HLv.out, HN.out] at c6; go_simp; try with_reducible rfl)
          refine Rg.op 12 (some 55) hS (v := ?v12a) (hy := fun wz hwz => ?h12a) (h := ?_)
          case h12a => (go_simp; try with_reducible rfl)
          refine Rg.op 13 (some 56) hS (v := ?v13a) (hy := fun wz hwz => ?h13a) (h := ?_)
          case h13a => (have u3 : (0 : Int) ≤ (k : Int) := (by omega); have u4 : (k : Int) < (i : Int) := (by omega); go_simp; try with_reducible rfl)
          refine Rg.op 14 (some 57) hS (v := ?v14a) (hy := fun wz hwz => ?h14a) (h := ?_)
          case h14a => (go_simp; try with_reducible rfl)
          refine Rg.op 15 (some 58) hS (v := ?v15a) (hy := fun wz hwz => ?h15a) (h := ?_)
          case h15a => (have da : wz.cell? ⟨g, o + k * 2 + 1, none⟩ = some (.int .u64 a) := (hwz.cell (p := ⟨g, o + k * 2 + 1, none⟩) hg (fun h => h)).trans HD1.out; go_simp; try with_reducible rfl)
          refine Rg.op 16 (some 59) hS (v := ?v16a) (hy := fun wz hwz => ?h16a) (h := ?_)
          case h16a => (have hb := (HB21.out.fr hwz (fun h => h)); have cf := hb.cell 0; simp only [List.getElem?_toArray, List.getElem?_cons_zero, List.getElem?_cons_succ] at cf; clear hb; go_simp; try with_reducible rfl)
          refine Rg.op 17 (some 60) hS (v := (.bool true)) (hy := fun wz hwz => ?h17a) (h := ?_)
          case h17a => (go_simp; try with_reducible rfl)
          refine Rg.op 18 (some 61) hS (v := (.bool true)) (hy := fun wz hwz => ?h18a) (h := ?_)
          case h18a => (go_simp; try with_reducible rfl)
          refine Rg.done _ (h := ?_)
          go_wp2
          have hS8 : Fr Nob w1 wr.drew.drew := hS.drew
          refine Rg.begin (Fr Nob w1) [] (by kernel_rfl) ?_
          refine Rg.op 0 (some 62) hS8 (v := ?v0y) (hy := fun wz hwz => ?h0y) (h := ?_)
          case h0y => (go_simp; try with_reducible rfl)
          refine Rg.op 1 (some 63) hS8 (v := ?v1y) (hy := fun wz hwz => ?h1y) (h := ?_)
          case h1y => (have hb := (HB21.out.fr hwz (fun h => h)); have cf := hb.cell 0; simp only [List.getElem?_toArray, List.getElem?_cons_zero, List.getElem?_cons_succ] at cf; clear hb; go_simp; try with_reducible rfl)
          refine Rg.op 2 (some 64) hS8 (v := ?v2y) (hy := fun wz hwz => ?h2y) (h := ?_)
          case h2y => (have hb := (HB11.out.fr hwz (fun h => h)); have c0 := hb.cell 0; simp only [List.getElem?_toArray, List.getElem?_cons_zero, List.getElem?_cons_succ] at c0; clear hb; go_simp; try with_reducible rfl)
          refine Rg.op 3 (some 65) hS8 (v := ?v3y) (hy := fun wz hwz => ?h3y) (h := ?_)
          case h3y => (have hb := (HL1.out.blk.fr hwz (fun h => h)); have c6 := hb.cell 6; have hp := hb.lt; simp only [List.getElem?_toArray, List.getElem?_cons_zero, List.getElem?_cons_succ] at c6; clear hb; rw [HLv.out, HN.out] at c6; go_simp; try with_reducible rfl)
          refine Rg.op 4 (some 66) hS8 (v := ?v4y) (hy := fun wz hwz => ?h4y) (h := ?_)
          case h4y => (go_simp; try with_reducible rfl)
          refine Rg.op 5 (some 67) hS8 (v := ?v5y) (hy := fun wz hwz => ?h5y) (h := ?_)
          case h5y => (have hb := (HL1.out.blk.fr hwz (fun h => h)); have c6 := hb.cell 6; have hp := hb.lt; simp only [List.getElem?_toArray, List.getElem?_cons_zero, List.getElem?_cons_succ] at c6; clear hb; rw [HLv.out, HN.out] at c6; go_simp; try with_reducible rfl)
          refine Rg.op 6 (some 68) hS8 (v := ?v6y) (hy := fun wz hwz => ?h6y) (h := ?_)
          case h6y => (go_simp; try with_reducible rfl)
          refine Rg.op 7 (some 69) hS8 (v := ?v7y) (hy := fun wz hwz => ?h7y) (h := ?_)
          case h7y => (have u3 : (0 : Int) ≤ (k : Int) := (by omega); have u4 : (k : Int) < (i : Int) := (by omega); go_simp; try with_reducible rfl)
          refine Rg.op 8 (some 70) hS8 (v := ?v8y) (hy := fun wz hwz => ?h8y) (h := ?_)
          case h8y => (go_simp; try with_reducible rfl)
          refine Rg.op 9 (some 71) hS8 (v := ?v9y) (hy := fun wz hwz => ?h9y) (h := ?_)
          case h9y => (have da : wz.cell? ⟨g, o + k * 2 + 1, none⟩ = some (.int .u64 a) := (hwz.cell (p := ⟨g, o + k * 2 + 1, none⟩) hg (fun h => h)).trans HD1.out; go_simp; try with_reducible rfl)
          refine Rg.op 10 (some 72) hS8 (v := (.int .u64 ((fr - a : Nat) : Int))) (hy := fun wz hwz => ?h10y) (h := ?_)
          case h10y => (have u5 : IntKind.u64.wrap ((fr : Int) - (a : Int)) = ((fr - a : Nat) : Int) := (by rw [IntKind.wrap_u64]; omega); go_simp; try with_reducible rfl)
          refine Rg.op 11 (some 73) hS8 (v := (.slice (some ⟨g9, fr - a, none⟩) (bl - (fr - a)) (cap9 - (fr - a)))) (hy := fun wz hwz => ?h11y) (h := ?_)
          case h11y => (have u6 : (0 : Int) ≤ ((fr - a : Nat) : Int) := (by omega); have u7 : ((fr - a : Nat) : Int) ≤ (bl : Int) := (by omega); have u8 : ¬ cap9 = fr - a := (by omega); go_simp; try with_reducible rfl)
          refine Rg.op 12 (some 5) hS8 (v := ?v12y) (hy := fun wz hwz => ?h12y) (h := ?_)
          case h12y => (go_simp; try with_reducible rfl)
          refine Rg.done _ (h := ?_)
          go_wp2
          go_ret
          refine ⟨some ⟨g9, fr - a, none⟩, cap9 - (fr - a), ?_, ?_, ?_, ?_, ?_⟩
          · rw [← HR0.out, List.length_drop, HBl.out]; rfl
          · rw [← HR0.out]
            intro h0
            obtain ⟨g', o', e, hc⟩ := bytesIn_own hO.out (by rw [List.length_drop] at h0; omega)
            injection e with e
            injection e with e1 e2
            subst e1 e2
            refine ⟨_, _, rfl, fun j x hx => ?_⟩
            rw [List.getElem?_drop] at hx
            have := hc _ x hx
            rw [Nat.zero_add] at this
            exact this
          · rw [← HR0.out, List.length_drop, HBl.out]; omega
          · rintro x hx
            injection hx with hx
            subst hx
            exact ⟨by show _ ≤ g9; omega, hgw.2⟩
          · exact HFr.out.drew.drew
        · have t1 : decide (a < fr) = false := by simpa using hlt2
          obtain rfl : a = fr := by omega
          refine Rg.begin (Fr Nob w1) [] (by kernel_rfl) ?_
          refine Rg.op 0 (some 43) hS (v := ?v0b) (hy := fun wz hwz => ?h0b) (h := ?_)
          case h0b => (go_simp; try with_reducible rfl)
          refine Rg.op 1 (some 44) hS (v := ?v1b) (hy := fun wz hwz => ?h1b) (h := ?_)
          case h1b => (have hb := (HB11.out.fr hwz (fun h => h)); have c0 := hb.cell 0; simp only [List.getElem?_toArray, List.getElem?_cons_zero, List.getElem?_cons_succ] at c0; clear hb; go_simp; try with_reducible rfl)
          refine Rg.op 2 (some 45) hS (v := ?v2b) (hy := fun wz hwz => ?h2b) (h := ?_)
          case h2b => (have hb := (HL1.out.blk.fr hwz (fun h => h)); have c6 := hb.cell 6; have hp := hb.lt; simp only [List.getElem?_toArray, List.getElem?_cons_zero, List.getElem?_cons_succ] at c6; clear hb; rw [HLv.out, HN.out] at c6; go_simp; try with_reducible rfl)
          refine Rg.op 3 (some 46) hS (v := ?v3b) (hy := fun wz hwz => ?h3b) (h := ?_)
          case h3b => (go_simp; try with_reducible rfl)
          refine Rg.op 4 (some 47) hS (v := ?v4b) (hy := fun wz hwz => ?h4b) (h := ?_)
          case h4b => (have hb := (HL1.out.blk.fr hwz (fun h => h)); have c6 := hb.cell 6; have hp := hb.lt; simp only [List.getElem?_toArray, List.getElem?_cons_zero, List.getElem?_cons_succ] at c6; clear hb; rw [HLv.out, HN.out] at c6; go_simp; try with_reducible rfl)
          refine Rg.op 5 (some 48) hS (v := ?v5b) (hy := fun wz hwz => ?h5b) (h := ?_)
          case h5b => (go_simp; try with_reducible rfl)
          refine Rg.op 6 (some 49) hS (v := (.bool true)) (hy := fun wz hwz => ?h6b) (h := ?_)
          case h6b => (go_simp; try with_reducible rfl)
          refine Rg.op 7 (some 50) hS (v := ?v7b) (hy := fun wz hwz => ?h7b) (h := ?_)
          case h7b => (go_simp; try with_reducible rfl)
          refine Rg.op 8 (some 51) hS (v := ?v8b) (hy := fun wz hwz => ?h8b) (h := ?_)
          case h8b => (have hb := (HB11.out.fr hwz (fun h => h)); have c0 := hb.cell 0; simp only [List.getElem?_toArray, List.getElem?_cons_zero, List.getElem?_cons_succ] at c0; clear hb; go_simp; try with_reducible rfl)
          refine Rg.op 9 (some 52) hS (v := ?v9b) (hy := fun wz hwz => ?h9b) (h := ?_)
          case h9b => (have hb := (HL1.out.blk.fr hwz (fun h => h)); have c6 := hb.cell 6; have hp := hb.lt; simp only [List.getElem?_toArray, List.getElem?_cons_zero, List.getElem?_cons_succ] at c6; clear hb; rw [HLv.out, HN.out] at c6; go_simp; try with_reducible rfl)
          refine Rg.op 10 (some 53) hS (v := ?v10b) (hy := fun wz hwz => ?h10b) (h := ?_)
          case h10b => (go_simp; try with_reducible rfl)
          refine Rg.op 11 (some 54) hS (v := ?v11b) (hy := fun wz hwz => ?h11b) (h := ?_)
          case h11b => (have hb := (HL1.out.blk.fr hwz (fun h => h)); have c6 := hb.cell 6; have hp := hb.lt; simp only [List.getElem?_toArray, List.getElem?_cons_zero, List.getElem?_cons_succ] at c6; clear hb; rw [HLv.out, HN.out] at c6; go_simp; try with_reducible rfl)
          refine Rg.op 12 (some 55) hS (v := ?v12b) (hy := fun wz hwz => ?h12b) (h := ?_)
          case h12b => (go_simp; try with_reducible rfl)
          refine Rg.op 13 (some 56) hS (v := ?v13b) (hy := fun wz hwz => ?h13b) (h := ?_)
          case h13b => (have u3 : (0 : Int) ≤ (k : Int) := (by omega); have u4 : (k : Int) < (i : Int) := (by omega); go_simp; try with_reducible rfl)
          refine Rg.op 14 (some 57) hS (v := ?v14b) (hy := fun wz hwz => ?h14b) (h := ?_)
          case h14b => (go_simp; try with_reducible rfl)
          refine Rg.op 15 (some 58) hS (v := ?v15b) (hy := fun wz hwz => ?h15b) (h := ?_)
          case h15b => (have da : wz.cell? ⟨g, o + k * 2 + 1, none⟩ = some (.int .u64 a) := (hwz.cell (p := ⟨g, o + k * 2 + 1, none⟩) hg (fun h => h)).trans HD1.out; go_simp; try with_reducible rfl)
          refine Rg.op 16 (some 59) hS (v := ?v16b) (hy := fun wz hwz => ?h16b) (h := ?_)
          case h16b => (have hb := (HB21.out.fr hwz (fun h => h)); have cf := hb.cell 0; simp only [List.getElem?_toArray, List.getElem?_cons_zero, List.getElem?_cons_succ] at cf; clear hb; go_simp; try with_reducible rfl)
          refine Rg.op 17 (some 60) hS (v := (.bool false)) (hy := fun wz hwz => ?h17b) (h := ?_)
          case h17b => (go_simp; try with_reducible rfl)
          refine Rg.op 18 (some 61) hS (v := (.bool false)) (hy := fun wz hwz => ?h18b) (h := ?_)
          case h18b => (go_simp; try with_reducible rfl)
          refine Rg.done _ (h := ?_)
          go_wp2
          go_ret
          have hR : bs = L.tail a0 a := by rw [← HR0.out, Nat.sub_self, List.drop_zero]
          refine ⟨some ⟨g9, 0, none⟩, cap9, ?_, ?_, ?_, ?_, HFr.out.drew⟩
          · rw [← hR, HBl.out]; rfl
          · rw [← hR]; exact bytesIn_own hO.out
          · rw [← hR, HBl.out]; exact hcap
          · rintro x hx
            injection hx with hx
            subst hx
            exact ⟨by show _ ≤ g9; omega, hgw.2⟩
      · have t0 : decide (k < i) = false := by simpa using hkn
        obtain rfl : k = i := by omega
        have hfin2 : L.fin ≤ fr := by
          rcases Nat.eq_zero_or_pos k with h0 | h0
          · have : L.rs = [] := List.eq_nil_of_length_eq_zero (by rw [LS.rs_length, HN.out]; exact h0)
            rw [hfin, this]; simp [sizes]; exact ha
          · have h1 := HK1.out (k - 1) (by omega)
            rw [HLd.out.endOf (by rw [HN.out]; omega), show k - 1 + 1 = k from by omega, List.take_of_length_le (by rw [LS.rs_length, HN.out]; exact Nat.le_refl _)] at h1
            omega
        have HNo := Lib.hid (HLd.out.none hfin2)
        rw [List.drop_of_length_le (by rw [LS.rs_length, HN.out]; exact Nat.le_refl _)] at hO
        clear hfin2
        refine Rg.begin (Fr Nob w1) [] (by kernel_rfl) ?_
        refine Rg.op 0 (some 43) hS (v := ?v0z) (hy := fun wz hwz => ?h0z) (h := ?_)
        case h0z => (go_simp; try with_reducible rfl)
        refine Rg.op 1 (some 44) hS (v := ?v1z) (hy := fun wz hwz => ?h1z) (h := ?_)
        case h1z => (have hb := (HB11.out.fr hwz (fun h => h)); have c0 := hb.cell 0; simp only [List.getElem?_toArray, List.getElem?_cons_zero, List.getElem?_cons_succ] at c0; clear hb; go_simp; try with_reducible rfl)
        refine Rg.op 2 (some 45) hS (v := ?v2z) (hy := fun wz hwz => ?h2z) (h := ?_)
        case h2z => (have hb := (HL1.out.blk.fr hwz (fun h => h)); have c6 := hb.cell 6; have hp := hb.lt; simp only [List.getElem?_toArray, List.getElem?_cons_zero, List.getElem?_cons_succ] at c6; clear hb; rw [HLv.out, HN.out] at c6; go_simp; try with_reducible rfl)
        refine Rg.op 3 (some 46) hS (v := ?v3z) (hy := fun wz hwz => ?h3z) (h := ?_)
        case h3z => (go_simp; try with_reducible rfl)
        refine Rg.op 4 (some 47) hS (v := ?v4z) (hy := fun wz hwz => ?h4z) (h := ?_)
        case h4z => (have hb := (HL1.out.blk.fr hwz (fun h => h)); have c6 := hb.cell 6; have hp := hb.lt; simp only [List.getElem?_toArray, List.getElem?_cons_zero, List.getElem?_cons_succ] at c6; clear hb; rw [HLv.out, HN.out] at c6; go_simp; try with_reducible rfl)
        refine Rg.op 5 (some 48) hS (v := ?v5z) (hy := fun wz hwz => ?h5z) (h := ?_)
        case h5z => (go_simp; try with_reducible rfl)
        refine Rg.op 6 (some 49) hS (v := (.bool false)) (hy := fun wz hwz => ?h6z) (h := ?_)
        case h6z => (go_simp; try with_reducible rfl)
        refine Rg.op 7 (some 50) hS (v := ?v7z) (hy := fun wz hwz => ?h7z) (h := ?_)
        case h7z => (go_simp; try with_reducible rfl)
        refine Rg.pass 8 (some 51) hS (h := ?_)
        refine Rg.pass 9 (some 52) hS (h := ?_)
        refine Rg.pass 10 (some 53) hS (h := ?_)
        refine Rg.pass 11 (some 54) hS (h := ?_)
        refine Rg.pass 12 (some 55) hS (h := ?_)
        refine Rg.pass 13 (some 56) hS (h := ?_)
        refine Rg.pass 14 (some 57) hS (h := ?_)
        refine Rg.pass 15 (some 58) hS (h := ?_)
        refine Rg.pass 16 (some 59) hS (h := ?_)
        refine Rg.pass 17 (some 60) hS (h := ?_)
        refine Rg.op 18 (some 61) hS (v := (.bool false)) (hy := fun wz hwz => ?h18z) (h := ?_)
        case h18z => (go_simp; try with_reducible rfl)
        refine Rg.done _ (h := ?_)
        go_wp2
        go_ret
        rcases hO.out.2 with ⟨rfl, _⟩ | ⟨g9, cap9, cur, rfl, hg9, hh9, _⟩
        · exact ⟨none, 0, by rw [HNo.out]; rfl, by rw [HNo.out]; intro h; simp at h, by rw [HNo.out]; simp, fun a ha => (by cases ha), HFr.out.drew⟩
        · refine ⟨some ⟨g9, 0, none⟩, cap9, by rw [HNo.out]; rfl, by rw [HNo.out]; intro h; simp at h, by rw [HNo.out]; simp, ?_, HFr.out.drew⟩
          rintro x hx
          injection hx with hx
          subst hx
          exact ⟨by show _ ≤ g9; omega, Blk.lt hh9⟩
end Go.Proofs.YtccmmnacejdeoaaGreatDoor
