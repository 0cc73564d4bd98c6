/-
  none: whether bytes are noughts.
-/
import Derived.Test.YtilclfeaolhoeaaDoorPgParse
namespace Go.Proofs.YtilclfeaolhoeaaDoor
set_option linter.unusedSimpArgs false
set_option linter.unusedVariables false
open Go.RowKit

/-- Where a row without the noughts at its end ends. -/
def Ends (b : List UInt8) (m : Nat) : Prop := m ≤ b.length ∧ (∀ j x, m ≤ j → b[j]? = some x → x = 0) ∧ (0 < m → ∃ x, b[m - 1]? = some x ∧ x ≠ 0)
/-- A slice of so many bytes. -/
def Sl (e : Ending) (P : Nat → Prop) : Prop := ∃ A k c', e = .returned (.slice A k c') ∧ P k
theorem Ends.all {b : List UInt8} {m : Nat} (h : Ends b m) : (m = 0) ↔ b.all (· == 0) = true := by
  obtain ⟨h1, h2, h3⟩ := h
  rw [List.all_eq_true]
  constructor
  · rintro rfl x hx
    obtain ⟨j, hj⟩ := List.mem_iff_getElem?.1 hx
    rw [h2 j x (Nat.zero_le _) hj]; rfl
  · intro h
    rcases Nat.eq_zero_or_pos m with h0 | h0
    · exact h0
    · obtain ⟨x, hx, hne⟩ := h3 h0
      exact absurd (by simpa using h x (List.mem_of_getElem? hx)) hne

set_option maxHeartbeats 800000 in
set_option maxRecDepth 100000 in
theorem trimRight_any (kb ko c : Nat) (b : List UInt8) (w : World) (h : BytesIn w (some ⟨kb, ko, none⟩) b) (hc : b.length ≤ c) (hl : b.length ≤ 4000000000) :
    Calls Tryd.prog 45 #[.slice (some ⟨kb, ko, none⟩) b.length c, .int .u8 0] w fun e w' => ∃ m, e = .returned (.slice (some ⟨kb, ko, none⟩) m c) ∧ Ends b m ∧ w = w' := by
  have H := Lib.hid h
  have qL := len_by
  clear h
  obtain ⟨n, hn⟩ : ∃ n, b.length = n := ⟨_, rfl⟩
  have HN := Lib.hid hn
  rw [hn] at hc hl ⊢
  clear hn
  go_enter Tryd.func45, Tryd.ntmps45
  go_wp2
  go_loopw [0] (fun v wr => ∃ m : Nat, m ≤ n ∧ v = .slice (some ⟨kb, ko, none⟩) m c ∧ Hid (∀ j x, m ≤ j → b[j]? = some x → x = 0) ∧ w = wr) (fun v _ => match v with | .slice _ k _ => k | _ => 0)
  case atStart => exact ⟨n, Nat.le_refl _, rfl, fun j x hj hx => by have := (List.getElem?_eq_some_iff.1 hx).1; have := HN.out; omega, rfl⟩
  case round =>
    obtain ⟨m, hm, rfl, hz, rfl⟩ := hrel
    have HEn : Hid ((m = 0 ∨ ∃ x, b[m - 1]? = some x ∧ x ≠ 0) → Ends b m) := fun h => ⟨by rw [HN.out]; exact hm, hz.out, fun h0 => by
      rcases h with h | h
      · omega
      · exact h⟩
    by_cases h0 : 0 < m
    · obtain ⟨x, hx⟩ : ∃ x, b[m - 1]? = some x := ⟨_, List.getElem?_eq_getElem (by rw [HN.out]; omega)⟩
      obtain ⟨g', o', e, hcs⟩ := H.out (by rw [HN.out]; omega)
      injection e with e
      injection e with e1 e2
      subst e1 e2
      have c0 := hcs (m - 1) x hx
      have hlt := cell_lt c0
      have q1 : (0 : Int) < (m : Int) := by omega
      have q2 : ((m : Int) - 1).toNat = m - 1 := by omega
      have q3 : (0 : Int) ≤ (m : Int) - 1 := by omega
      have q4 : (m : Int) - 1 < (m : Int) := by omega
      have q5 : IntKind.i64.wrap ((m : Int) - 1) = (m : Int) - 1 := by rw [IntKind.wrap_i64]; omega
      have q6 : (m : Int) - 1 ≤ (c : Int) := by omega
      have HXx := Lib.hid hx
      clear hcs hx
      by_cases hx0 : x = 0
      · subst hx0
        have HZ2 : Hid (∀ j x, m - 1 ≤ j → b[j]? = some x → x = 0) := fun j y hj hy => by
          by_cases e : j = m - 1
          · subst e; rw [HXx.out] at hy; injection hy with hy; exact hy.symm
          · exact hz.out j y (by omega) hy
        go_wp2
        try (rw [qL]; go_wp2)
        go_roundw
        case rel => exact ⟨m - 1, by omega, by go_num, HZ2, by trivial⟩
        case measure => simp only []; omega
      · have hb0 : ((x.toNat : Int) == 0) = false := by rw [beq_eq_false_iff_ne]; intro h; exact hx0 (UInt8.toNat_inj.1 (by show x.toNat = 0; omega))
        go_wp2
        try (rw [qL]; go_wp2)
        go_ret
        exact ⟨m, rfl, HEn.out (.inr ⟨x, HXx.out, hx0⟩), rfl⟩
    · obtain rfl : m = 0 := by omega
      go_wp2
      try (rw [qL]; go_wp2)
      go_ret
      exact ⟨0, rfl, HEn.out (.inl (by trivial)), rfl⟩

set_option maxHeartbeats 800000 in
set_option maxRecDepth 100000 in
theorem trimLeft_zero (kb ko c : Nat) (w : World) : Calls Tryd.prog 44 #[.slice (some ⟨kb, ko, none⟩) 0 c, .int .u8 0] w fun e w' => e = .returned (.slice none 0 0) ∧ w = w' := by
  have qL := len_by
  go_enter Tryd.func44, Tryd.ntmps44
  go_wp2
  go_loopw [0] (fun v wr => v = .slice (some ⟨kb, ko, none⟩) 0 c ∧ w = wr) (fun v _ => 0)
  case atStart => exact ⟨rfl, rfl⟩
  case round =>
    obtain ⟨rfl, rfl⟩ := hrel
    go_wp2
    try (rw [qL]; go_wp2)
    try (rw [qL]; go_wp2)
    go_ret
    exact ⟨rfl, rfl⟩
set_option maxHeartbeats 800000 in
set_option maxRecDepth 100000 in
theorem trimLeft_pos (kb ko c m : Nat) (b : List UInt8) (w : World) (h : BytesIn w (some ⟨kb, ko, none⟩) b) (hm : Ends b m) (h0 : 0 < m) (hc : b.length ≤ c) (hl : b.length ≤ 4000000000) :
    Calls Tryd.prog 44 #[.slice (some ⟨kb, ko, none⟩) m c, .int .u8 0] w fun e w' => Sl e (fun k => 0 < k ∧ k ≤ 4000000000) ∧ w = w' := by
  have H := Lib.hid h
  have HM := Lib.hid hm
  have hmb := hm.1
  have qL := len_by
  clear h hm
  go_enter Tryd.func44, Tryd.ntmps44
  go_wp2
  go_loopw [0] (fun v wr => ∃ i : Nat, i < m ∧ v = .slice (some ⟨kb, ko + i, none⟩) (m - i) (c - i) ∧ w = wr) (fun v _ => match v with | .slice _ k _ => k | _ => 0)
  case atStart => exact ⟨0, h0, rfl, rfl⟩
  case round =>
    obtain ⟨i, hi, rfl, rfl⟩ := hrel
    obtain ⟨x, hx⟩ : ∃ x, b[i]? = some x := ⟨_, List.getElem?_eq_getElem (by omega)⟩
    obtain ⟨g', o', e, hcs⟩ := H.out (by omega)
    injection e with e
    injection e with e1 e2
    subst e1 e2
    have c0 := hcs i x hx
    have hlt := cell_lt c0
    obtain ⟨k, hk⟩ : ∃ k, m - i = k := ⟨_, rfl⟩
    obtain ⟨cc, hcc⟩ : ∃ k, c - i = k := ⟨_, rfl⟩
    obtain ⟨oi, hoi⟩ : ∃ k, ko + i = k := ⟨_, rfl⟩
    have HK := Lib.hid hk
    have HCc := Lib.hid hcc
    have HOi := Lib.hid hoi
    rw [hoi] at c0
    rw [hk, hcc, hoi]
    have k0 : 0 < k := by omega
    have k1 : (0 : Int) < (k : Int) := by omega
    have k2 : k ≤ 4000000000 := by omega
    have HXx := Lib.hid hx
    clear hcs hx hk hcc hoi
    by_cases hx0 : x = 0
    · subst hx0
      have hne : i + 1 < m := by
        rcases Nat.lt_or_ge (i + 1) m with h | h
        · exact h
        · obtain ⟨y, hy, hy0⟩ := HM.out.2.2 h0
          rw [show m - 1 = i from by omega, HXx.out] at hy
          injection hy with hy
          exact absurd hy.symm hy0
      have k3 : ¬ cc = 1 := by have := HCc.out; omega
      have k4 : (1 : Int) ≤ (k : Int) := by omega
      have k5 : (k : Int) ≤ (cc : Int) := by have := HCc.out; have := HK.out; omega
      go_wp2
      try (rw [qL]; go_wp2)
      go_roundw
      case rel => exact ⟨i + 1, hne, by rw [← HK.out, ← HCc.out, ← HOi.out, Nat.sub_sub, Nat.sub_sub, Nat.add_assoc], by trivial⟩
      case measure => simp only []; omega
    · have hb0 : ((x.toNat : Int) == 0) = false := by rw [beq_eq_false_iff_ne]; intro h; exact hx0 (UInt8.toNat_inj.1 (by show x.toNat = 0; omega))
      have k6 : ((k : Int) == 0) = false := by rw [beq_eq_false_iff_ne]; omega
      go_wp2
      try (rw [qL]; go_wp2)
      try (rw [qL]; go_wp2)
      go_ret
      exact ⟨⟨some ⟨kb, oi, none⟩, k, cc, rfl, k0, k2⟩, by trivial⟩

set_option maxHeartbeats 800000 in
set_option maxRecDepth 100000 in
theorem Trim_any (kb ko c : Nat) (b : List UInt8) (w : World) (h : BytesIn w (some ⟨kb, ko, none⟩) b) (hc : b.length ≤ c) (hl : b.length ≤ 4000000000) (hp : 0 < b.length) :
    Calls Tryd.prog 41 #[.slice (some ⟨kb, ko, none⟩) b.length c, .string ⟨#[0]⟩] w fun e w' => Sl e (fun k => k ≤ 4000000000 ∧ ((k = 0) ↔ b.all (· == 0) = true)) ∧ Fr Nob w w' := by
  have HR := Lib.hid (fun W (hW : Fr Nob w W) => trimRight_any kb ko c b W (h.new hW) hc hl)
  have HL : Hid (∀ W (hW : Fr Nob w W) m, Ends b m → Calls Tryd.prog 44 #[.slice (some ⟨kb, ko, none⟩) m c, .int .u8 0] W fun e w' => Sl e (fun k => k ≤ 4000000000 ∧ ((k = 0) ↔ b.all (· == 0) = true)) ∧ W = w') := by
    intro W hW m hm
    rcases Nat.eq_zero_or_pos m with h0 | h0
    · subst h0
      refine (trimLeft_zero kb ko c W).mono ?_
      rintro e w' ⟨rfl, rfl⟩
      exact ⟨⟨_, _, _, rfl, by omega, by rw [← hm.all]⟩, rfl⟩
    · refine (trimLeft_pos kb ko c m b W (h.new hW) hm h0 hc hl).mono ?_
      rintro e w' ⟨⟨A, k, c', rfl, h1, h2⟩, rfl⟩
      refine ⟨⟨_, _, _, rfl, h2, ?_⟩, rfl⟩
      rw [← hm.all]; omega
  have qL := len_by
  obtain ⟨n, hn⟩ : ∃ n, b.length = n := ⟨_, rfl⟩
  rw [hn] at HR hp ⊢
  have k6 : ((n : Int) == 0) = false := by rw [beq_eq_false_iff_ne]; omega
  clear h hc hl hn
  go_enter Tryd.func41, Tryd.ntmps41
  go_wp2
  try (rw [qL]; go_wp2)
  have hS : Fr Nob w w.drew := (Fr.refl _ w).drew
  refine Rg.begin (Fr Nob w) [] (by kernel_rfl) ?_
  refine Rg.op 0 (some 21) hS (v := ?v0r6) (a' := ?a0r6) (hy := fun wz hwz => ?h0r6) (ha := ?b0r6) (h := ?_)
  case h0r6 => (go_simp; try with_reducible rfl)
  case b0r6 => (simp only [Act.put, List.setIfInBounds_toArray, List.set_cons_zero, List.set_cons_succ]; rfl)
  refine Rg.op 1 (some 22) hS (v := ?v1r6) (a' := ?a1r6) (hy := fun wz hwz => ?h1r6) (ha := ?b1r6) (h := ?_)
  case h1r6 => (go_simp; try with_reducible rfl)
  case b1r6 => (simp only [Act.put, List.setIfInBounds_toArray, List.set_cons_zero, List.set_cons_succ]; rfl)
  refine Rg.op 2 (some 23) hS (v := (.int .u8 0)) (a' := ?a2r6) (hy := fun wz hwz => ?h2r6) (ha := ?b2r6) (h := ?_)
  case h2r6 => (go_simp; rfl)
  case b2r6 => (simp only [Act.put, List.setIfInBounds_toArray, List.set_cons_zero, List.set_cons_succ]; rfl)
  refine Rg.op 4 (some 25) hS (v := ?v4r6) (a' := ?a4r6) (hy := fun wz hwz => ?h4r6) (ha := ?b4r6) (h := ?_)
  case h4r6 => (go_simp; try with_reducible rfl)
  case b4r6 => (simp only [Act.put, List.setIfInBounds_toArray, List.set_cons_zero, List.set_cons_succ]; rfl)
  refine Rg.op 5 (some 26) hS (v := (.int .u8 0)) (a' := ?a5r6) (hy := fun wz hwz => ?h5r6) (ha := ?b5r6) (h := ?_)
  case h5r6 => (go_simp; rfl)
  case b5r6 => (simp only [Act.put, List.setIfInBounds_toArray, List.set_cons_zero, List.set_cons_succ]; rfl)
  refine Rg.call 3 (some 24) (hrun := ?h3r6) (hcall := HR.out _ hS) (h := ?_)
  case h3r6 => (go_simp)
  rintro e wz ⟨m, rfl, hm, rfl⟩
  refine ⟨_, ?a3r6, rfl, ?b3r6, (fun _ => hS), ?_⟩
  case b3r6 => (simp only [Act.put, List.setIfInBounds_toArray, List.set_cons_zero, List.set_cons_succ]; rfl)
  refine Rg.call 6 (some 27) (hrun := ?h6r6) (hcall := HL.out _ hS m hm) (h := ?_)
  case h6r6 => (go_simp)
  rintro e wy ⟨⟨A, k, c', rfl, hk, hk2⟩, rfl⟩
  refine ⟨_, ?a6r6, rfl, ?b6r6, (fun _ => hS), ?_⟩
  case b6r6 => (simp only [Act.put, List.setIfInBounds_toArray, List.set_cons_zero, List.set_cons_succ]; rfl)
  refine Rg.op 7 (some 4) hS (v := ?v7r6) (a' := ?a7r6) (hy := fun wz hwz => ?h7r6) (ha := ?b7r6) (h := ?_)
  case h7r6 => (go_simp; try with_reducible rfl)
  case b7r6 => (simp only [Act.put, List.setIfInBounds_toArray, List.set_cons_zero, List.set_cons_succ]; rfl)
  refine Rg.done _ (h := ?_)
  go_wp2
  go_ret
  exact ⟨⟨A, k, c', rfl, hk, hk2⟩, hS⟩

theorem none_any (A : Option Addr) (c : Nat) (b : List UInt8) (w : World) (h : Bsl w A c b) (hl : b.length = 512) :
    Calls Tryd.prog 35 #[.slice A 512 c] w fun e w' => e = .returned (.bool (b.all (· == 0))) ∧ Fr Nob w w' := by
  obtain ⟨kb, ko, rfl, _⟩ := h.h (by omega)
  have ht := Trim_any kb ko c b w h.h h.le (by omega) (by omega)
  rw [hl] at ht
  have HT := Lib.hid ht
  have qL := len_by
  clear ht h hl
  go_enter Tryd.func35, Tryd.ntmps35
  go_wp2_with fail
  refine HT.out.mono ?_
  rintro e w1 ⟨⟨A, k, c', rfl, hk, hk2⟩, hf⟩
  have HE : Hid (((k : Int) == 0) = b.all (· == 0)) := by
    show _ = _
    by_cases h0 : k = 0
    · rw [hk2.1 h0]; subst h0; rfl
    · rw [show ((k : Int) == 0) = false from by rw [beq_eq_false_iff_ne]; omega]
      cases hb : b.all (· == 0)
      · rfl
      · exact absurd (hk2.2 hb) h0
  have HF := Lib.hid hf
  clear hk2 hf
  go_wp2
  try (rw [qL]; go_wp2)
  go_ret
  exact ⟨by rw [← HE.out]; rfl, HF.out⟩
end Go.Proofs.YtilclfeaolhoeaaDoor
