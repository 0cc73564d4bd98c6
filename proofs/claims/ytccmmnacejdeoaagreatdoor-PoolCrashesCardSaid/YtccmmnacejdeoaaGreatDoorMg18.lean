/-
  PgNone, PgFile, PgLay, PgWr, in one text.
-/
import Derived.Test.YtccmmnacejdeoaaGreatDoorMg17
import Derived.Test.YtccmmnacejdeoaaGreatDoorMg05
/-
  none: whether bytes are noughts.
-/
namespace Go.Proofs.YtccmmnacejdeoaaGreatDoor
set_option linter.unusedSimpArgs false
set_option linter.unusedVariables false
open Go.RowKit

/-- Where a row without the noughts at its end ends. -/
def Ends (b : List UInt8) (m : Nat) : Prop := m ≤ b.length ∧ (∀ j x, m ≤ j → b[j]? = some x → x = 0) ∧ (0 < m → ∃ x, b[m - 1]? = some x ∧ x ≠ 0)
/-- A slice of so many bytes. -/
def Sl (e : Ending) (P : Nat → Prop) : Prop := ∃ A k c', e = .returned (.slice A k c') ∧ P k
theorem Ends.all {b : List UInt8} {m : Nat} (h : Ends b m) : (m = 0) ↔ b.all (· == 0) = true := by
  obtain ⟨h1, h2, h3⟩ := h
  rw [List.all_eq_true]
  constructor
  · rintro rfl x hx
    obtain ⟨j, hj⟩ := List.mem_iff_getElem?.1 hx
    rw [h2 j x (Nat.zero_le _) hj]; rfl
  · intro h
    rcases Nat.eq_zero_or_pos m with h0 | h0
    · exact h0
    · obtain ⟨x, hx, hne⟩ := h3 h0
      exact absurd (by simpa using h x (List.mem_of_getElem? hx)) hne

set_option maxHeartbeats 800000 in
set_option maxRecDepth 100000 in
theorem trimRight_any (kb ko c : Nat) (b : List UInt8) (w : World) (h : BytesIn w (some ⟨kb, ko, none⟩) b) (hc : b.length ≤ c) (hl : b.length ≤ 4000000000) :
    Calls Tryz.prog 82 #[.slice (some ⟨kb, ko, none⟩) b.length c, .int .u8 0] w fun e w' => ∃ m, e = .returned (.slice (some ⟨kb, ko, none⟩) m c) ∧ Ends b m ∧ w = w' := by
  have H := Lib.hid h
  have qL := len_by
  clear h
  obtain ⟨n, hn⟩ : ∃ n, b.length = n := ⟨_, rfl⟩
  have HN := Lib.hid hn
  rw [hn] at hc hl ⊢
  clear hn
  go_enter Tryz.func82, Tryz.ntmps82
  go_wp2
  go_loopw [0] (fun v wr => ∃ m : Nat, m ≤ n ∧ v = .slice (some ⟨kb, ko, none⟩) m c ∧ Hid (∀ j x, m ≤ j → b[j]? = some x → x = 0) ∧ w = wr) (fun v _ => match v with | .slice _ k _ => k | _ => 0)
  case atStart => exact ⟨n, Nat.le_refl _, rfl, fun j x hj hx => by have := (List.getElem?_eq_some_iff.1 hx).1; have := HN.out; omega, rfl⟩
  case round =>
    obtain ⟨m, hm, rfl, hz, rfl⟩ := hrel
    have HEn : Hid ((m = 0 ∨ ∃ x, b[m - 1]? = some x ∧ x ≠ 0) → Ends b m) := fun h => ⟨by rw [HN.out]; exact hm, hz.out, fun h0 => by
      rcases h with h | h
      · omega
      · exact h⟩
    by_cases h0 : 0 < m
    · obtain ⟨x, hx⟩ : ∃ x, b[m - 1]? = some x := ⟨_, List.getElem?_eq_getElem (by rw [HN.out]; omega)⟩
      obtain ⟨g', o', e, hcs⟩ := H.out (by rw [HN.out]; omega)
      injection e with e
      injection e with e1 e2
      subst e1 e2
      have c0 := hcs (m - 1) x hx
      have hlt := cell_lt c0
      have q1 : (0 : Int) < (m : Int) := by omega
      have q2 : ((m : Int) - 1).toNat = m - 1 := by omega
      have q3 : (0 : Int) ≤ (m : Int) - 1 := by omega
      have q4 : (m : Int) - 1 < (m : Int) := by omega
      have q5 : IntKind.i64.wrap ((m : Int) - 1) = (m : Int) - 1 := by rw [IntKind.wrap_i64]; omega
      have q6 : (m : Int) - 1 ≤ (c : Int) := by omega
      have HXx := Lib.hid hx
      clear hcs hx
      by_cases hx0 : x = 0
      · subst hx0
        have HZ2 : Hid (∀ j x, m - 1 ≤ j → b[j]? = some x → x = 0) := fun j y hj hy => by
          by_cases e : j = m - 1
          · subst e; rw [HXx.out] at hy; injection hy with hy; exact hy.symm
          · exact hz.out j y (by omega) hy
        go_wp2
        try (rw [qL]; go_wp2)
        go_roundw
        case rel => exact ⟨m - 1, by omega, by go_num, HZ2, by trivial⟩
        case measure => simp only []; omega
      · have hb0 : ((x.toNat : Int) == 0) = false := by rw [beq_eq_false_iff_ne]; intro h; exact hx0 (UInt8.toNat_inj.1 (by show x.toNat = 0; omega))
        go_wp2
        try (rw [qL]; go_wp2)
        go_ret
        exact ⟨m, rfl, HEn.out (.inr ⟨x, HXx.out, hx0⟩), rfl⟩
    · obtain rfl : m = 0 := by omega
      go_wp2
      try (rw [qL]; go_wp2)
      go_ret
      exact ⟨0, rfl, HEn.out (.inl (by trivial)), rfl⟩

set_option maxHeartbeats 800000 in
set_option maxRecDepth 100000 in
theorem trimLeft_zero (kb ko c : Nat) (w : World) : Calls Tryz.prog 81 #[.slice (some ⟨kb, ko, none⟩) 0 c, .int .u8 0] w fun e w' => e = .returned (.slice none 0 0) ∧ w = w' := by
  have qL := len_by
  go_enter Tryz.func81, Tryz.ntmps81
  go_wp2
  go_loopw [0] (fun v wr => v = .slice (some ⟨kb, ko, none⟩) 0 c ∧ w = wr) (fun v _ => 0)
  case atStart => exact ⟨rfl, rfl⟩
  case round =>
    obtain ⟨rfl, rfl⟩ := hrel
    go_wp2
    try (rw [qL]; go_wp2)
    try (rw [qL]; go_wp2)
    go_ret
    exact ⟨rfl, rfl⟩
set_option maxHeartbeats 800000 in
set_option maxRecDepth 100000 in
theorem trimLeft_pos (kb ko c m : Nat) (b : List UInt8) (w : World) (h : BytesIn w (some ⟨kb, ko, none⟩) b) (hm : Ends b m) (h0 : 0 < m) (hc : b.length ≤ c) (hl : b.length ≤ 4000000000) :
    Calls Tryz.prog 81 #[.slice (some ⟨kb, ko, none⟩) m c, .int .u8 0] w fun e w' => Sl e (fun k => 0 < k ∧ k ≤ 4000000000) ∧ w = w' := by
  have H := Lib.hid h
  have HM := Lib.hid hm
  have hmb := hm.1
  have qL := len_by
  clear h hm
  go_enter Tryz.func81, Tryz.ntmps81
  go_wp2
  go_loopw [0] (fun v wr => ∃ i : Nat, i < m ∧ v = .slice (some ⟨kb, ko + i, none⟩) (m - i) (c - i) ∧ w = wr) (fun v _ => match v with | .slice _ k _ => k | _ => 0)
  case atStart => exact ⟨0, h0, rfl, rfl⟩
  case round =>
    obtain ⟨i, hi, rfl, rfl⟩ := hrel
    obtain ⟨x, hx⟩ : ∃ x, b[i]? = some x := ⟨_, List.getElem?_eq_getElem (by omega)⟩
    obtain ⟨g', o', e, hcs⟩ := H.out (by omega)
    injection e with e
    injection e with e1 e2
    subst e1 e2
    have c0 := hcs i x hx
    have hlt := cell_lt c0
    obtain ⟨k, hk⟩ : ∃ k, m - i = k := ⟨_, rfl⟩
    obtain ⟨cc, hcc⟩ : ∃ k, c - i = k := ⟨_, rfl⟩
    obtain ⟨oi, hoi⟩ : ∃ k, ko + i = k := ⟨_, rfl⟩
    have HK := Lib.hid hk
    have HCc := Lib.hid hcc
    have HOi := Lib.hid hoi
    rw [hoi] at c0
    rw [hk, hcc, hoi]
    have k0 : 0 < k := by omega
    have k1 : (0 : Int) < (k : Int) := by omega
    have k2 : k ≤ 4000000000 := by omega
    have HXx := Lib.hid hx
    clear hcs hx hk hcc hoi
    by_cases hx0 : x = 0
    · subst hx0
      have hne : i + 1 < m := by
        rcases Nat.lt_or_ge (i + 1) m with h | h
        · exact h
        · obtain ⟨y, hy, hy0⟩ := HM.out.2.2 h0
          rw [show m - 1 = i from by omega, HXx.out] at hy
          injection hy with hy
          exact absurd hy.symm hy0
      have k3 : ¬ cc = 1 := by have := HCc.out; omega
      have k4 : (1 : Int) ≤ (k : Int) := by omega
      have k5 : (k : Int) ≤ (cc : Int) := by have := HCc.out; have := HK.out; omega
      go_wp2
      try (rw [qL]; go_wp2)
      go_roundw
      case rel => exact ⟨i + 1, hne, by rw [← HK.out, ← HCc.out, ← HOi.out, Nat.sub_sub, Nat.sub_sub, Nat.add_assoc], by trivial⟩
      case measure => simp only []; omega
    · have hb0 : ((x.toNat : Int) == 0) = false := by rw [beq_eq_false_iff_ne]; intro h; exact hx0 (UInt8.toNat_inj.1 (by show x.toNat = 0; omega))
      have k6 : ((k : Int) == 0) = false := by rw [beq_eq_false_iff_ne]; omega
      go_wp2
      try (rw [qL]; go_wp2)
      try (rw [qL]; go_wp2)
      go_ret
      exact ⟨⟨some ⟨kb, oi, none⟩, k, cc, rfl, k0, k2⟩, by trivial⟩

set_option maxHeartbeats 800000 in
set_option maxRecDepth 100000 in
theorem Trim_any (kb ko c : Nat) (b : List UInt8) (w : World) (h : BytesIn w (some ⟨kb, ko, none⟩) b) (hc : b.length ≤ c) (hl : b.length ≤ 4000000000) (hp : 0 < b.length) :
    Calls Tryz.prog 58 #[.slice (some ⟨kb, ko, none⟩) b.length c, .string ⟨#[0]⟩] w fun e w' => Sl e (fun k => k ≤ 4000000000 ∧ ((k = 0) ↔ b.all (· == 0) = true)) ∧ Fr Nob w w' := by
  have HR := Lib.hid (fun W (hW : Fr Nob w W) => trimRight_any kb ko c b W (h.new hW) hc hl)
  have HL : Hid (∀ W (hW : Fr Nob w W) m, Ends b m → Calls Tryz.prog 81 #[.slice (some ⟨kb, ko, none⟩) m c, .int .u8 0] W fun e w' => Sl e (fun k => k ≤ 4000000000 ∧ ((k = 0) ↔ b.all (· == 0) = true)) ∧ W = w') := by
    intro W hW m hm
    rcases Nat.eq_zero_or_pos m with h0 | h0
    · subst h0
      refine (trimLeft_zero kb ko c W).mono ?_
      rintro e w' ⟨rfl, rfl⟩
      exact ⟨⟨_, _, _, rfl, by omega, by rw [← hm.all]⟩, rfl⟩
    · refine (trimLeft_pos kb ko c m b W (h.new hW) hm h0 hc hl).mono ?_
      rintro e w' ⟨⟨A, k, c', rfl, h1, h2⟩, rfl⟩
      refine ⟨⟨_, _, _, rfl, h2, ?_⟩, rfl⟩
      rw [← hm.all]; omega
  have qL := len_by
  obtain ⟨n, hn⟩ : ∃ n, b.length = n := ⟨_, rfl⟩
  rw [hn] at HR hp ⊢
  have k6 : ((n : Int) == 0) = false := by rw [beq_eq_false_iff_ne]; omega
  clear h hc hl hn
  go_enter Tryz.func58, Tryz.ntmps58
  go_wp2
  try (rw [qL]; go_wp2)
  have hS : Fr Nob w w.drew := (Fr.refl _ w).drew
  refine Rg.begin (Fr Nob w) [] (by kernel_rfl) ?_
  refine Rg.op 0 (some 21) hS (v := ?v0r6) (hy := fun wz hwz => ?h0r6) (h := ?_)
  case h0r6 => (go_simp; try with_reducible rfl)
  refine Rg.op 1 (some 22) hS (v := ?v1r6) (hy := fun wz hwz => ?h1r6) (h := ?_)
  case h1r6 => (go_simp; try with_reducible rfl)
  refine Rg.op 2 (some 23) hS (v := (.int .u8 0)) (hy := fun wz hwz => ?h2r6) (h := ?_)
  case h2r6 => (go_simp; rfl)
  refine Rg.op 4 (some 25) hS (v := ?v4r6) (hy := fun wz hwz => ?h4r6) (h := ?_)
  case h4r6 => (go_simp; try with_reducible rfl)
  refine Rg.op 5 (some 26) hS (v := (.int .u8 0)) (hy := fun wz hwz => ?h5r6) (h := ?_)
  case h5r6 => (go_simp; rfl)
  refine Rg.call 3 (some 24) (hrun := ?h3r6) (hcall := HR.out _ hS) (h := ?_)
  case h3r6 => (go_simp)
  rintro e wz ⟨m, rfl, hm, rfl⟩
  refine ⟨_, ?a3r6, rfl, ?b3r6, (fun _ => hS), ?_⟩
  case b3r6 => (simp only [Act.put, List.setIfInBounds_toArray, List.set_cons_zero, List.set_cons_succ]; rfl)
  refine Rg.call 6 (some 27) (hrun := ?h6r6) (hcall := HL.out _ hS m hm) (h := ?_)
  case h6r6 => (go_simp)
  rintro e wy ⟨⟨A, k, c', rfl, hk, hk2⟩, rfl⟩
  refine ⟨_, ?a6r6, rfl, ?b6r6, (fun _ => hS), ?_⟩
  case b6r6 => (simp only [Act.put, List.setIfInBounds_toArray, List.set_cons_zero, List.set_cons_succ]; rfl)
  refine Rg.op 7 (some 4) hS (v := ?v7r6) (hy := fun wz hwz => ?h7r6) (h := ?_)
  case h7r6 => (go_simp; try with_reducible rfl)
  refine Rg.done _ (h := ?_)
  go_wp2
  go_ret
  exact ⟨⟨A, k, c', rfl, hk, hk2⟩, hS⟩

theorem none_any (A : Option Addr) (c : Nat) (b : List UInt8) (w : World) (h : Bsl w A c b) (hl : b.length = 512) :
    Calls Tryz.prog 34 #[.slice A 512 c] w fun e w' => e = .returned (.bool (b.all (· == 0))) ∧ Fr Nob w w' := by
  obtain ⟨kb, ko, rfl, _⟩ := h.h (by omega)
  have ht := Trim_any kb ko c b w h.h h.le (by omega) (by omega)
  rw [hl] at ht
  have HT := Lib.hid ht
  have qL := len_by
  clear ht h hl
  go_enter Tryz.func34, Tryz.ntmps34
  go_wp2_with fail
  refine HT.out.mono ?_
  rintro e w1 ⟨⟨A, k, c', rfl, hk, hk2⟩, hf⟩
  have HE : Hid (((k : Int) == 0) = b.all (· == 0)) := by
    show _ = _
    by_cases h0 : k = 0
    · rw [hk2.1 h0]; subst h0; rfl
    · rw [show ((k : Int) == 0) = false from by rw [beq_eq_false_iff_ne]; omega]
      cases hb : b.all (· == 0)
      · rfl
      · exact absurd (hk2.2 hb) h0
  have HF := Lib.hid hf
  clear hk2 hf
  go_wp2
  try (rw [qL]; go_wp2)
  go_ret
  exact ⟨by rw [← HE.out]; rfl, HF.out⟩
end Go.Proofs.YtccmmnacejdeoaaGreatDoor

/-
  A file's reads and writes of some sectors (a disk whose fuse is not lit).
-/
namespace Go.Proofs.YtccmmnacejdeoaaGreatDoor
set_option linter.unusedSimpArgs false
set_option linter.unusedVariables false
open Go.RowKit

/-- A *File: its disk, where it stands, how many pages, the number of the last lot. -/
def FileAt (w : World) (p d : Nat) (at0 pages turn : Nat) : Prop := Blk w p 89 #[.pointer (some ⟨d, 0, none⟩), .int .i64 at0, .int .i64 pages, .int .u64 turn]
theorem FileAt.fr {F : Nat → Prop} {w w' : World} {p d at0 pages turn : Nat} (h : FileAt w p d at0 pages turn) (hf : Fr F w w') (hp : ¬ F p) : FileAt w' p d at0 pages turn := Blk.fr h hf hp
/-- The bytes of some sectors. -/
def secN (now : List (List UInt8)) (i : Nat) : Nat → List UInt8
  | 0 => []
  | k + 1 => secN now i k ++ now.getD (i + k) []
theorem secN_length {now : List (List UInt8)} (h : ∀ (j : Nat) s, now[j]? = some s → s.length = 64) (i : Nat) : ∀ k, i + k ≤ now.length → (secN now i k).length = 64 * k
  | 0, _ => rfl
  | k + 1, hk => by
    have hlt : i + k < now.length := by omega
    rw [secN, List.length_append, secN_length h i k (by omega), List.getD_eq_getElem?_getD, List.getElem?_eq_getElem hlt, Option.getD_some, h (i + k) _ (List.getElem?_eq_getElem hlt)]
    omega

set_option maxHeartbeats 1600000 in
set_option maxRecDepth 100000 in
theorem pgRead8_any {R : Nat → Prop} {w : World} {p d at0 pages turn : Nat} {S : DS} (i : Nat) (h : FileAt w p d at0 pages turn) (hd : DiskOk R w d S) (hl : S.dead = false) (hi : i + 8 ≤ S.now.length) (hi2 : i ≤ 70000) :
    Calls Tryz.prog 33 #[.pointer (some ⟨p, 0, none⟩), .int .i64 i] w fun e w' => ∃ g c, e = .returned (.tuple #[.slice (some ⟨g, 0, none⟩) 512 c, .int .i64 0]) ∧ Bsl w' (some ⟨g, 0, none⟩) c (secN S.now i 8) ∧ w.heap.size ≤ g ∧ Fr Nob w w' := by
  obtain ⟨i0, hi0, hz0, hz1, hz2⟩ := info_parts info_u8
  have HD := Lib.hid hd
  have hlen := secN_length (fun j s hs => hd.len64 (i := j) hs) i
  have HLn := Lib.hid hlen
  have HS64 : Hid (∀ (j : Nat) s, S.now[j]? = some s → s.length = 64) := fun j s hs => hd.len64 (i := j) hs
  have c0 := h.cell 0
  have hp := h.lt
  simp only [List.getElem?_toArray, List.getElem?_cons_zero] at c0
  have H := Lib.hid h
  have HDead := Lib.hid hl
  clear hd h hlen c0 hp hl
  go_enter Tryz.func33, Tryz.ntmps33
  go_wp2
  go_loopw [6, 7, 8, 9, 10] (fun v _ _ _ iv wr => ∃ k : Nat, k ≤ 8 ∧ iv = .int .i64 k ∧ Hid (wr.ownsRow w.heap.size 5 1 v (64 * k) (bts (secN S.now i k))) ∧ Hid (Fr Nob w wr)) (fun _ _ _ _ iv _ => 8 - (intOf iv).toNat)
  case atStart => exact ⟨0, by omega, rfl, World.ownsRow_nil _ _ _ _, Fr.refl _ _⟩
  case round =>
    obtain ⟨k, hk, rfl, ho, hF⟩ := hrel
    by_cases hlt : k < 8
    · have hkl : i + k < S.now.length := by omega
      have HRd := Lib.hid (Read_good (i + k) S.now[i + k] (HD.out.new hF.out) HDead.out (List.getElem?_eq_getElem hkl))
      have hfb := H.out.fr hF.out (fun h => h)
      have c0 := hfb.cell 0
      have hp := hfb.lt
      simp only [List.getElem?_toArray, List.getElem?_cons_zero] at c0
      have e1 : ((i + k : Nat) : Int) = (i : Int) + (k : Int) := by omega
      rw [e1] at HRd
      have HE : Hid (secN S.now i (k + 1) = secN S.now i k ++ S.now[i + k]) := by
        show _ = _
        rw [secN, List.getD_eq_getElem?_getD, List.getElem?_eq_getElem hkl]; rfl
      have hs64 := HS64.out (i + k) _ (List.getElem?_eq_getElem hkl)
      obtain ⟨sb, hsb⟩ : ∃ sb, S.now[i + k] = sb := ⟨_, rfl⟩
      rw [hsb] at HRd HE hs64
      have u1 : IntKind.i64.wrap ((i : Int) + (k : Int)) = (i : Int) + (k : Int) := by rw [IntKind.wrap_i64]; omega
      clear hfb e1 hsb
      go_wp2_with fail
      refine HRd.out.mono ?_
      rintro e w1 ⟨rfl, hb1, hf1⟩
      have C1 : Hid ((bts sb).length = 64 * 1) := by rw [Hid, bts_length]; omega
      have C2 : Hid (∀ j u, (bts sb)[j]? = some u → w1.cell? ((⟨wr.heap.size, 0, none⟩ : Addr).add j) = some u) := fun j u hu => bytesIn_cells (bytesIn_of hb1) j u hu
      have HO : Hid (w1.ownsRow w.heap.size 5 1 _ (64 * k) (bts (secN S.now i k))) := own_fr ho.out hf1 (fun _ _ h => h)
      have HF1 : Hid (Fr Nob w w1) := hF.out.trans hf1
      have hsz := HF1.out.size
      clear hb1 hf1 ho hF HRd c0 hp
      go_wp2_with (at_builtin; go_must (refine wpList_append_own_at _ rfl (.tmp 27) (.tmp 28) 38 rfl w.heap.size 5 i0 (.int .u8 0) 1 1 Tryz.underlying38 hi0 hz0 hz1 hz2 rfl (by decide) _ (64 * k) (bts (secN S.now i k)) rfl HO.out ⟨wr.heap.size, 0, none⟩ 64 64 (bts sb) rfl C1.out C2.out (bts_one _) (by unfold maxLen; omega) (by omega) hsz ?_); intro v7 w7 hown7 hg7 hn7 hat7; have HO7 : Hid (w7.ownsRow w.heap.size 5 1 v7 (64 * (k + 1)) (bts (secN S.now i (k + 1)))) := (by rw [HE.out, bts_append, show 64 * (k + 1) = 64 * k + 64 from by omega]; exact hown7); have HF7 : Hid (Fr Nob w w7) := Fr.grown HF1.out hg7 (fun r hr => .inl (HO.out.lt r hr).1); clear hown7 hg7 hn7 hat7)
      go_roundw
      case rel => exact ⟨k + 1, by omega, by go_num, HO7, HF7⟩
      case measure => simp [intOf]; omega
    · obtain rfl : k = 8 := by omega
      obtain ⟨g7, cap, rfl, hgb, hgl⟩ := ho.out.form (by omega)
      have hcap : 512 ≤ cap := by
        rcases ho.out.2 with ⟨e, _⟩ | ⟨_, _, _, e, _, _, h5, _⟩
        · cases e
        · injection e with _ _ e; omega
      have HB : Hid (Bsl wr (some ⟨g7, 0, none⟩) cap (secN S.now i 8)) := ⟨bytesIn_own ho.out, by rw [HLn.out 8 hi]; exact hcap, fun a ha => by injection ha with ha; subst ha; exact hgl⟩
      clear ho
      go_wp2
      go_ret2
      exact ⟨g7, cap, rfl, HB.out, hgb, hF.out⟩

end Go.Proofs.YtccmmnacejdeoaaGreatDoor

/-
  Pages in a slice; lay: pages are written where they stand.
-/
namespace Go.Proofs.YtccmmnacejdeoaaGreatDoor
set_option linter.unusedSimpArgs false
set_option linter.unusedVariables false
open Go.RowKit

structure PgV.Ok (x : PgV) : Prop where
  no : x.no < 100000
  lsn : x.lsn < 18446744073709551616
  d : x.d.length = 480
/-- A page's data, as a value shows it. -/
def PCell (R : Nat → Prop) (w : World) (x : PgV) (v : Value) : Prop := ∃ kb ko c, v = .slice (some ⟨kb, ko, none⟩) 480 c ∧ Bsl w (some ⟨kb, ko, none⟩) c x.d ∧ ¬ R kb
theorem PCell.fr {R F : Nat → Prop} {w w' : World} {x : PgV} {v : Value} (h : PCell R w x v) (hf : Fr F w w') (hF : ∀ b, b < w.heap.size → F b → R b) : PCell R w' x v := by
  obtain ⟨kb, ko, c, rfl, h1, h2⟩ := h
  have hlt := h1.lt _ rfl
  exact ⟨kb, ko, c, rfl, ⟨h1.h.fr hf (fun a ha h => by injection ha with ha; subst ha; exact h2 (hF _ hlt h)), h1.le, fun a ha => Nat.lt_of_lt_of_le (h1.lt a ha) hf.size⟩, h2⟩
theorem PCell.less {R R' : Nat → Prop} {w : World} {x : PgV} {v : Value} (h : PCell R w x v) (hr : ∀ b, b < w.heap.size → R' b → R b) : PCell R' w x v := by
  obtain ⟨kb, ko, c, rfl, h1, h2⟩ := h
  have hlt := h1.lt _ rfl
  exact ⟨kb, ko, c, rfl, h1, fun h => h2 (hr _ hlt h)⟩
/-- Pages in a slice. -/
def PgsIn (R : Nat → Prop) (w : World) (A : Option Addr) (l : List (PgV × Value)) : Prop := 0 < l.length → ∃ g, A = some ⟨g, 0, none⟩ ∧ ¬ R g ∧ ∀ (j : Nat) x, l[j]? = some x →
  w.cell? ⟨g, j * 3, none⟩ = some (.int .i64 x.1.no) ∧ w.cell? ⟨g, j * 3 + 1, none⟩ = some (.int .u64 x.1.lsn) ∧ w.cell? ⟨g, j * 3 + 2, none⟩ = some x.2 ∧ PCell R w x.1 x.2
theorem PgsIn.fr {R F : Nat → Prop} {w w' : World} {A : Option Addr} {l : List (PgV × Value)} (h : PgsIn R w A l) (hf : Fr F w w') (hF : ∀ b, b < w.heap.size → F b → R b) : PgsIn R w' A l := by
  intro h0
  obtain ⟨g, rfl, hg, hc⟩ := h h0
  refine ⟨g, rfl, hg, fun j x hx => ?_⟩
  obtain ⟨c0, c1, c2, c3⟩ := hc j x hx
  have hlt := cell_lt c0
  have hn : ¬ F g := fun h => hg (hF _ hlt h)
  exact ⟨(hf.cell (p := ⟨g, j * 3, none⟩) hlt hn).trans c0, (hf.cell (p := ⟨g, j * 3 + 1, none⟩) hlt hn).trans c1, (hf.cell (p := ⟨g, j * 3 + 2, none⟩) hlt hn).trans c2, c3.fr hf hF⟩
theorem PgsIn.less {R R' : Nat → Prop} {w : World} {A : Option Addr} {l : List (PgV × Value)} (h : PgsIn R w A l) (hr : ∀ b, b < w.heap.size → R' b → R b) : PgsIn R' w A l := by
  intro h0
  obtain ⟨g, rfl, hg, hc⟩ := h h0
  obtain ⟨c0, _⟩ := hc 0 _ (List.getElem?_eq_getElem h0)
  have hlt := cell_lt c0
  refine ⟨g, rfl, fun h => hg (hr _ hlt h), fun j x hx => ?_⟩
  obtain ⟨c0, c1, c2, c3⟩ := hc j x hx
  exact ⟨c0, c1, c2, c3.less hr⟩

set_option maxRecDepth 100000 in
theorem spare_any {w : World} {p d at0 pages turn : Nat} (h : FileAt w p d at0 pages turn) (h1 : at0 ≤ 100000) (h2 : pages ≤ 100000) : Calls Tryz.prog 63 #[.pointer (some ⟨p, 0, none⟩)] w fun e w' => e = .returned (.int .i64 (at0 + 8 * pages : Nat)) ∧ Fr Nob w w' := by
  have HB := Lib.hid h
  have hp := h.lt
  have u1 : IntKind.i64.wrap (8 * (pages : Int)) = 8 * (pages : Int) := by rw [IntKind.wrap_i64]; omega
  have u2 : IntKind.i64.wrap ((at0 : Int) + 8 * (pages : Int)) = (at0 : Int) + 8 * (pages : Int) := by rw [IntKind.wrap_i64]; omega
  have e1 : ((at0 + 8 * pages : Nat) : Int) = (at0 : Int) + 8 * (pages : Int) := by omega
  rw [e1]
  clear h e1
  go_enter Tryz.func63, Tryz.ntmps63
  go_wp2
  have hS : Fr Nob w w.drew := (Fr.refl _ w).drew
  refine Rg.begin (Fr Nob w) [] (by kernel_rfl) ?_
  refine Rg.op 0 (some 3) hS (v := ?v0s) (hy := fun wz hwz => ?h0s) (h := ?_)
  case h0s => (go_simp; try with_reducible rfl)
  refine Rg.op 1 (some 4) hS (v := ?v1s) (hy := fun wz hwz => ?h1s) (h := ?_)
  case h1s => (go_simp; try with_reducible rfl)
  refine Rg.op 2 (some 5) hS (v := ?v2s) (hy := fun wz hwz => ?h2s) (h := ?_)
  case h2s => (go_simp; try with_reducible rfl)
  refine Rg.op 3 (some 6) hS (v := ?v3s) (hy := fun wz hwz => ?h3s) (h := ?_)
  case h3s => (have hb := HB.out.fr hwz (fun h => h); have cc := Blk.cell hb 1; have hpp := Blk.lt hb; simp only [List.getElem?_toArray, List.getElem?_cons_zero, List.getElem?_cons_succ] at cc; clear hb; go_simp; try with_reducible rfl)
  refine Rg.op 4 (some 7) hS (v := ?v4s) (hy := fun wz hwz => ?h4s) (h := ?_)
  case h4s => (go_simp; try with_reducible rfl)
  refine Rg.op 5 (some 8) hS (v := ?v5s) (hy := fun wz hwz => ?h5s) (h := ?_)
  case h5s => (go_simp; try with_reducible rfl)
  refine Rg.op 6 (some 9) hS (v := ?v6s) (hy := fun wz hwz => ?h6s) (h := ?_)
  case h6s => (go_simp; try with_reducible rfl)
  refine Rg.op 7 (some 10) hS (v := ?v7s) (hy := fun wz hwz => ?h7s) (h := ?_)
  case h7s => (have hb := HB.out.fr hwz (fun h => h); have cc := Blk.cell hb 2; have hpp := Blk.lt hb; simp only [List.getElem?_toArray, List.getElem?_cons_zero, List.getElem?_cons_succ] at cc; clear hb; go_simp; try with_reducible rfl)
  refine Rg.op 8 (some 11) hS (v := (.int .i64 (8 * (pages : Int)))) (hy := fun wz hwz => ?h8s) (h := ?_)
  case h8s => (have y := u1; go_simp; try with_reducible rfl)
  refine Rg.op 9 (some 12) hS (v := (.int .i64 ((at0 : Int) + 8 * (pages : Int)))) (hy := fun wz hwz => ?h9s) (h := ?_)
  case h9s => (have y := u2; go_simp; try with_reducible rfl)
  refine Rg.op 10 (some 2) hS (v := ?v10s) (hy := fun wz hwz => ?h10s) (h := ?_)
  case h10s => (go_simp; try with_reducible rfl)
  refine Rg.done _ (h := ?_)
  go_wp2
  go_ret
  exact ⟨rfl, hS⟩
set_option maxRecDepth 100000 in
theorem Need_any (n : Nat) (w : World) (h : n ≤ 100000) (h1 : 1 ≤ n) : Calls Tryz.prog 20 #[.int .i64 n] w fun e w' => e = .returned (.int .i64 (8 * n + 80 : Nat)) ∧ w = w' := by
  have HU : Hid ((8 * (n : Int) + 80) = ((8 * n + 80 : Nat) : Int)) := by show _ = _; omega
  have u0 : ¬ (n : Int) < 1 := by omega
  have hmax : max (n : Int) 1 = (n : Int) := by omega
  rw [← HU.out]
  go_enter Tryz.func20, Tryz.ntmps20
  go_wp2
  go_ret
  exact ⟨rfl, rfl⟩

theorem len_Pg (w : World) (A : Option Addr) (n c : Nat) : (Builtin.len_ #[104] 3 #[Value.slice A n c]).run Tryz.prog w = .ok (.int .i64 n) w := by go_simp
theorem FrD.alloc {R : Nat → Prop} {w W : World} (h : FrD R w W) (o : Obj) : FrD R w (W.alloc o) := Fr.alloc h o

end Go.Proofs.YtccmmnacejdeoaaGreatDoor

/-
  Runs of writes and flushes on a disk that may die; a file's write of some sectors, whatever the fuse.
-/
namespace Go.Proofs.YtccmmnacejdeoaaGreatDoor
set_option linter.unusedSimpArgs false
set_option linter.unusedVariables false
open Go.RowKit

/-- A write of a sector, or a flush. -/
inductive WOp where
  | wr (i : Nat) (s : List UInt8)
  | fl
def WOp.next (S : DS) : WOp → DS
  | .wr i s => S.wr i s
  | .fl => S.flush
/-- Writes and flushes one behind the other, up to the disk's death: what is left of the disk, and the answer. -/
def runs : DS → List WOp → DS × Int
  | S, [] => (S, 0)
  | S, o :: l => if S.dead = true then (S, 50) else runs (o.next S) l
def secOps (i : Nat) (b : List UInt8) : Nat → List WOp
  | 0 => []
  | k + 1 => secOps i b k ++ [.wr (i + k) ((b.drop (64 * k)).take 64)]
theorem runs_append (S : DS) (a b : List WOp) : runs S (a ++ b) = if (runs S a).2 = 0 then runs (runs S a).1 b else runs S a := by
  induction a generalizing S with
  | nil => rfl
  | cons o l ih =>
    show (if S.dead = true then (S, (50 : Int)) else runs (o.next S) (l ++ b)) = _
    by_cases h : S.dead = true
    · rw [if_pos h]
      have : runs S (o :: l) = (S, 50) := by unfold runs; rw [if_pos h]
      rw [this]; rfl
    · rw [if_neg h, ih]
      have : runs S (o :: l) = runs (o.next S) l := by conv => lhs; unfold runs; rw [if_neg h]
      rw [this]
theorem runs_code (S : DS) (l : List WOp) : (runs S l).2 = 0 ∨ (runs S l).2 = 50 := by
  induction l generalizing S with
  | nil => exact .inl rfl
  | cons o l ih =>
    unfold runs
    split
    · exact .inr rfl
    · exact ih _
theorem next_length (S : DS) (o : WOp) : (o.next S).now.length = S.now.length := by
  cases o with
  | wr i s =>
    show (S.wr i s).now.length = _
    unfold DS.wr DS.burn DS.wr0
    split <;> simp
  | fl =>
    show S.flush.now.length = _
    unfold DS.flush DS.burn DS.flush0
    split <;> rfl
theorem next_waits (S : DS) (o : WOp) : (o.next S).waits.length ≤ S.waits.length + 1 := by
  cases o with
  | wr i s =>
    show (S.wr i s).waits.length ≤ _
    unfold DS.wr DS.burn DS.wr0
    split <;> simp
  | fl =>
    show S.flush.waits.length ≤ _
    unfold DS.flush DS.burn DS.flush0
    split <;> simp
theorem runs_length (S : DS) (l : List WOp) : (runs S l).1.now.length = S.now.length := by
  induction l generalizing S with
  | nil => rfl
  | cons o l ih =>
    unfold runs
    split
    · rfl
    · rw [ih, next_length]
theorem runs_waits (S : DS) (l : List WOp) : (runs S l).1.waits.length ≤ S.waits.length + l.length := by
  induction l generalizing S with
  | nil => exact Nat.le_refl _
  | cons o l ih =>
    unfold runs
    split
    · simp
    · have := ih (o.next S); have := next_waits S o; rw [List.length_cons]; omega
theorem secOps_length (i : Nat) (b : List UInt8) : ∀ k, (secOps i b k).length = k
  | 0 => rfl
  | k + 1 => by rw [secOps, List.length_append, secOps_length i b k]; rfl
theorem secOps_split (i : Nat) (b : List UInt8) (j : Nat) : ∀ n, j ≤ n → ∃ r, secOps i b n = secOps i b j ++ r
  | 0, h => by obtain rfl : j = 0 := by omega
               exact ⟨[], (List.append_nil _).symm⟩
  | n + 1, h => by
    by_cases e : j = n + 1
    · subst e; exact ⟨[], (List.append_nil _).symm⟩
    · obtain ⟨r, hr⟩ := secOps_split i b j n (by omega)
      exact ⟨r ++ [.wr (i + n) ((b.drop (64 * n)).take 64)], by rw [secOps, hr, List.append_assoc]⟩
/-- A run that is over stays over. -/
theorem runs_stuck {S : DS} {a b : List WOp} (h : ∃ r, b = a ++ r) (hc : (runs S a).2 ≠ 0) : runs S b = runs S a := by
  obtain ⟨r, rfl⟩ := h
  rw [runs_append, if_neg hc]
theorem runs_one (S : DS) (o : WOp) : runs S [o] = if S.dead = true then (S, 50) else (o.next S, 0) := rfl
theorem runs_snoc {S : DS} {a : List WOp} (h : (runs S a).2 = 0) (o : WOp) : runs S (a ++ [o]) = if (runs S a).1.dead = true then ((runs S a).1, 50) else (o.next (runs S a).1, 0) := by
  rw [runs_append, if_pos h, runs_one]

set_option maxHeartbeats 1600000 in
set_option maxRecDepth 100000 in
theorem pgWrite_run {R : Nat → Prop} {w : World} {p d at0 pages turn : Nat} {S : DS} (i n : Nat) (kb ko c : Nat) (b : List UInt8) (h : FileAt w p d at0 pages turn) (hp : ¬ R p) (hd : DiskOk R w d S) (hb : Bsl w (some ⟨kb, ko, none⟩) c b) (hkb : ¬ R kb) (hbl : b.length = 64 * n) (hn : n ≤ 8) (hi : i + n ≤ S.now.length) (hi2 : i ≤ 70000) (hwl : S.waits.length ≤ 1000000) :
    Calls Tryz.prog 65 #[.pointer (some ⟨p, 0, none⟩), .int .i64 i, .slice (some ⟨kb, ko, none⟩) b.length c] w fun e w' => e = .returned (.int .i64 (runs S (secOps i b n)).2) ∧ DiskOk (Ext R w w') w' d (runs S (secOps i b n)).1 ∧ FrD R w w' := by
  have qL := len_by
  have HB := Lib.hid hb
  have hcp := hb.le
  have hkl := hb.lt _ rfl
  have hp0 := h.lt
  have H := Lib.hid h
  have HRl : Hid (∀ x, R x → x < w.heap.size) := fun x hx => hd.lt hx
  have HD0 : Hid (DiskOk (Ext R w w) w d (runs S (secOps i b 0)).1) := hd.ext (Nat.le_refl _) hd
  have HWs : Hid (∀ k, (runs S (secOps i b k)).1.waits.length ≤ S.waits.length + k) := fun k => by have := runs_waits S (secOps i b k); rwa [secOps_length] at this
  have HWl : Hid (∀ k, (runs S (secOps i b k)).1.now.length = S.now.length) := fun k => runs_length S _
  have HBl := Lib.hid hbl
  rw [hbl] at hcp
  rw [hbl]
  obtain ⟨m, hm⟩ : ∃ m, 64 * n = m := ⟨_, rfl⟩
  rw [hm] at hcp
  rw [hm]
  clear h hd hb hbl
  go_enter Tryz.func65, Tryz.ntmps65
  go_wp2
  go_loopw [7, 8] (fun iv _ wr => ∃ k : Nat, k ≤ n ∧ iv = .int .i64 (64 * k : Nat) ∧ Hid (DiskOk (Ext R w wr) wr d (runs S (secOps i b k)).1) ∧ Hid ((runs S (secOps i b k)).2 = 0) ∧ Hid (FrD R w wr)) (fun iv _ _ => 600 - (intOf iv).toNat)
  case atStart => exact ⟨0, by omega, rfl, HD0, rfl, Fr.refl _ _⟩
  case round =>
    clear HD0
    obtain ⟨k, hk, rfl, hD, hC0, hF⟩ := hrel
    by_cases hlt : k < n
    · have hfb := H.out.fr hF.out.fr hp
      have HFb := Lib.hid hfb
      have hcut := bytesIn_part' (HB.out.h.fr hF.out.fr (fun a ha => by injection ha with ha; subst ha; exact hkb)) (64 * k) (m - 64 * k) (by rw [HBl.out]; omega)
      have hs : BytesIn wr (some ⟨kb, ko + 64 * k, none⟩) ((b.drop (64 * k)).take 64) := bytesIn_take hcut 64
      have hslen : ((b.drop (64 * k)).take 64).length = 64 := by rw [List.length_take, List.length_drop, HBl.out]; omega
      have hkl2 : kb < wr.heap.size := Nat.lt_of_lt_of_le hkl hF.out.size
      have HWr : Hid (∀ (W : World) cc, Fr Nob wr W → Calls Tryz.prog 74 #[.pointer (some ⟨d, 0, none⟩), .int .i64 (i + k : Nat), .slice (some ⟨kb, ko + 64 * k, none⟩) 64 cc] W fun e w' => e = .returned (.int .i64 (runs S (secOps i b (k + 1))).2) ∧ DiskOk (Ext (Ext R w wr) W w') w' d (runs S (secOps i b (k + 1))).1 ∧ FrD (Ext R w wr) W w') := by
        intro W cc hW
        have h1 := HWl.out k
        have h2 := HWs.out k
        rw [show secOps i b (k + 1) = secOps i b k ++ [.wr (i + k) ((b.drop (64 * k)).take 64)] from rfl, runs_snoc hC0.out]
        by_cases hdd : (runs S (secOps i b k)).1.dead = true
        · rw [if_pos hdd]
          refine (Write_dead (i + k : Nat) _ cc (hD.out.new hW) (by omega) (by omega) hdd).mono ?_
          rintro e w' ⟨rfl, rfl⟩
          exact ⟨rfl, (hD.out.new hW).ext (Nat.le_refl _) (hD.out.new hW), Fr.refl _ _⟩
        · rw [if_neg hdd]
          exact Write_goodD (i + k) ⟨kb, ko + 64 * k, none⟩ cc ((b.drop (64 * k)).take 64) (hD.out.new hW) (by omega) (by simpa using hdd) hslen (fun j u hu => bytesIn_cells (hs.new hW) j u hu) (Nat.lt_of_lt_of_le hkl2 hW.size) (by omega)
      have f0 := hfb.cell 0
      have fp := hfb.lt
      simp only [List.getElem?_toArray, List.getElem?_cons_zero] at f0
      have t1 : ((64 * k : Nat) : Int) < (m : Int) := by omega
      have t2 : ((64 * k : Nat) : Int).tdiv 64 = (k : Int) := by rw [Int.tdiv_eq_ediv_of_nonneg (by omega)]; omega
      have t3 : ((64 * k : Nat) : Int) + 64 = ((64 * (k + 1) : Nat) : Int) := by omega
      have t4 : IntKind.i64.wrap (((64 * (k + 1) : Nat)) : Int) = ((64 * (k + 1) : Nat) : Int) := by rw [IntKind.wrap_i64]; omega
      have t5 : (i : Int) + (k : Int) = ((i + k : Nat) : Int) := by omega
      have t6 : IntKind.i64.wrap ((i + k : Nat) : Int) = ((i + k : Nat) : Int) := by rw [IntKind.wrap_i64]; omega
      have t7 : (64 * (k + 1)) ≤ m := by omega
      have t8 : 64 * (k + 1) - 64 * k = 64 := by omega
      obtain ⟨q, hq⟩ : ∃ q, 64 * k = q := ⟨_, rfl⟩
      obtain ⟨q', hq'⟩ : ∃ q, 64 * (k + 1) = q := ⟨_, rfl⟩
      obtain ⟨ik, hik⟩ : ∃ q, i + k = q := ⟨_, rfl⟩
      rw [hq] at HWr t1 t2 t3 t8 ⊢
      rw [hq'] at t3 t4 t7 t8
      rw [hik] at HWr t5 t6
      have HQ' := Lib.hid hq'
      have HQ := Lib.hid hq
      have hqm : q ≤ 448 := by omega
      clear hcut hs hslen hfb hq hq' hik
      go_wp2
      have hS : Fr Nob wr wr.drew := (Fr.refl _ wr).drew
      have hpE : ¬ Ext R w wr p := fun h => by rcases h with h | h; exact hp h; have := hp0; omega
      have hS0 : Fr (fun x => Ext R w wr x) wr wr.drew := (Fr.refl _ wr).drew
      refine Rg.begin' (Fr (fun x => Ext R w wr x) wr) [] (by kernel_rfl) ?_
      refine Rg.op 0 (some 15) hS0 (v := ?v0r4) (hy := fun wz hwz => ?h0r4) (h := ?_)
      case h0r4 => (go_simp; try with_reducible rfl)
      refine Rg.op 1 (some 16) hS0 (v := ?v1r4) (hy := fun wz hwz => ?h1r4) (h := ?_)
      case h1r4 => (go_simp; try with_reducible rfl)
      refine Rg.op 2 (some 17) hS0 (v := ?v2r4) (hy := fun wz hwz => ?h2r4) (h := ?_)
      case h2r4 => (go_simp; try with_reducible rfl)
      refine Rg.op 3 (some 18) hS0 (v := ?v3r4) (hy := fun wz hwz => ?h3r4) (h := ?_)
      case h3r4 => (have hb := (HFb.out.fr hwz (fun h => hpE h)); have cc := Blk.cell hb 0; have hpp := Blk.lt hb; simp only [List.getElem?_toArray, List.getElem?_cons_zero] at cc; clear hb; go_simp; try with_reducible rfl)
      refine Rg.op 4 (some 19) hS0 (v := ?v4r4) (hy := fun wz hwz => ?h4r4) (h := ?_)
      case h4r4 => (go_simp; try with_reducible rfl)
      refine Rg.op 5 (some 20) hS0 (v := ?v5r4) (hy := fun wz hwz => ?h5r4) (h := ?_)
      case h5r4 => (go_simp; try with_reducible rfl)
      refine Rg.op 6 (some 21) hS0 (v := (.int .i64 k)) (hy := fun wz hwz => ?h6r4) (h := ?_)
      case h6r4 => (have y1 := t2; have y2 : IntKind.i64.wrap (k : Int) = (k : Int) := (by rw [IntKind.wrap_i64]; omega); go_simp; try with_reducible rfl)
      refine Rg.op 7 (some 22) hS0 (v := (.int .i64 ik)) (hy := fun wz hwz => ?h7r4) (h := ?_)
      case h7r4 => (have y1 := t5; have y2 := t6; go_simp; try with_reducible rfl)
      refine Rg.op 8 (some 23) hS0 (v := ?v8r4) (hy := fun wz hwz => ?h8r4) (h := ?_)
      case h8r4 => (go_simp; try with_reducible rfl)
      refine Rg.op 9 (some 24) hS0 (v := ?v9r4) (hy := fun wz hwz => ?h9r4) (h := ?_)
      case h9r4 => (go_simp; try with_reducible rfl)
      refine Rg.op 10 (some 25) hS0 (v := ?v10r4) (hy := fun wz hwz => ?h10r4) (h := ?_)
      case h10r4 => (go_simp; try with_reducible rfl)
      refine Rg.op 11 (some 26) hS0 (v := (.int .i64 q')) (hy := fun wz hwz => ?h11r4) (h := ?_)
      case h11r4 => (have y1 := t3; have y2 := t4; go_simp; try with_reducible rfl)
      refine Rg.op 12 (some 27) hS0 (v := (.slice (some ⟨kb, ko + q, none⟩) 64 (c - q))) (hy := fun wz hwz => ?h12r4) (h := ?_)
      case h12r4 => (have z1 : (0 : Int) ≤ (q : Int) := (by omega); have z2 : (q : Int) ≤ (q' : Int) := (by omega); have z3 : (q' : Int) ≤ (c : Int) := (by omega); have z4 : ¬ c = q := (by omega); have z5 := t8; go_simp; try with_reducible rfl)
      refine Rg.call 13 (some 28) (hrun := ?h13r4) (hcall := HWr.out _ (c - q) hS) (h := ?_)
      case h13r4 => (go_simp)
      rintro e w1 ⟨rfl, hd1, hf1⟩
      have HD1 := Lib.hid hd1
      have HF1 := Lib.hid hf1
      have hT : Fr (fun x => Ext R w wr x) wr w1 := hS0.step hf1.fr (fun i _ h => h)
      refine ⟨_, ?a13r4, rfl, ?b13r4, (fun _ => hT), ?_⟩
      case b13r4 => (simp only [Act.put, List.setIfInBounds_toArray, List.set_cons_zero, List.set_cons_succ]; rfl)
      refine Rg.op 14 (some 8) hT (v := ?v14r4) (hy := fun wz hwz => ?h14r4) (h := ?_)
      case h14r4 => (go_simp; try with_reducible rfl)
      refine Rg.done _ (h := ?_)
      have hsz0 := hF.out.size
      have hsz1 : wr.heap.size ≤ w1.heap.size := HF1.out.size
      have hdz : wr.drew.heap.size = wr.heap.size := rfl
      have HDk : Hid (DiskOk (Ext R w w1) w1 d (runs S (secOps i b (k + 1))).1) := HD1.out.more (fun x hx => by
        rcases hx with (hx | hx) | hx
        · exact .inl hx
        · exact .inr ⟨hx.1, by omega⟩
        · exact .inr ⟨by omega, hx.2⟩) (fun x hx => by
        rcases hx with hx | hx
        · have := HRl.out x hx; omega
        · exact hx.2)
      have HFk : Hid (FrD R w w1) := FrD.step (Fr.drew hF.out) (fun i h => h) HF1.out (fun i hi h => by
        rcases h with h | h
        · exact h
        · omega)
      clear HD1 HF1 hT hS hS0 hC0
      obtain ⟨cd, hcd⟩ : ∃ cd, (runs S (secOps i b (k + 1))).2 = cd := ⟨_, rfl⟩
      rw [hcd]
      have HCd := Lib.hid hcd
      rcases (by have := runs_code S (secOps i b (k + 1)); rw [hcd] at this; exact this : cd = 0 ∨ cd = 50) with h0 | h50
      · subst h0
        clear hcd
        go_wp2
        go_roundw
        case rel => exact ⟨k + 1, by omega, by rw [HQ'.out], HDk, HCd.out, HFk⟩
        case measure => simp [intOf]; omega
      · subst h50
        have HE : Hid (runs S (secOps i b n) = runs S (secOps i b (k + 1))) := runs_stuck (secOps_split i b (k + 1) n (by omega)) (by rw [hcd]; decide)
        clear hcd
        go_wp2
        go_ret
        rw [HE.out, HCd.out]
        exact ⟨rfl, HDk.out, HFk.out⟩
    · obtain rfl : k = n := by omega
      have t1 : ¬ ((64 * k : Nat) : Int) < (m : Int) := by omega
      obtain ⟨q, hq⟩ : ∃ q, 64 * k = q := ⟨_, rfl⟩
      rw [hq] at t1 ⊢
      go_wp2
      try (rw [qL]; go_wp2)
      go_ret
      rw [hC0.out]
      exact ⟨rfl, hD.out, hF.out⟩
end Go.Proofs.YtccmmnacejdeoaaGreatDoor
