/-
  DiskCopies: a copy has what the disk had, and each goes on by itself. For all rows of ints within the reach.
-/
import Derived.Test.YtieiopeblleheaaCopies
namespace Go.Proofs.Ytieiopeblleheaa
open Go.RowKit

set_option maxHeartbeats 4000000 in
set_option maxRecDepth 100000 in
theorem Copies_any (A1 : Option Addr) (c1 : Nat) (l : List Int) (A2 : Option Addr) (c2 : Nat) (m : List Int) (A3 : Option Addr) (c3 : Nat) (n : List Int) (fl : Int) (w : World)
    (hi1 : IntsIn w A1 l) (hr1 : l.length * 8 ≤ 140737488351232) (hi2 : IntsIn w A2 m) (hr2 : m.length * 8 ≤ 140737488351232) (hi3 : IntsIn w A3 n) (hr3 : n.length * 8 ≤ 140737488351232) (hf1 : -9223372036854775808 ≤ fl) (hf2 : fl ≤ 9223372036854775807) :
    Calls Try.prog 5 #[.slice A1 l.length c1, .slice A2 m.length c2, .slice A3 n.length c3, .int .i64 fl] w fun e w' => e = .returned (.bool true) ∧ Fr Nob w w' := by
  have HI1 := Lib.hid hi1
  have HI2 := Lib.hid hi2
  have HI3 := Lib.hid hi3
  clear hi1 hi2 hi3
  go_enter Try.func5, Try.ntmps5
  go_wp2_with fail
  refine (New_ok 12 _ (by omega) (by omega)).mono ?_
  rintro e w1 ⟨p, rfl, hp, hD1, hf1⟩
  have HM : Hid (OneMem w w1 p (DS.new (12 : Int).toNat)) := ⟨_, hD1, fun b hb => hb.1, hf1, rfl, rfl, by simp [DS.new]⟩
  clear hD1 hf1
  go_wp2
  go_loopw [11] (fun i wr => ∃ (k : Nat) (S : DS), k ≤ l.length ∧ k ≤ 30 ∧ i = .int .i64 k ∧ Hid (OneMem w wr p S) ∧ S.waits.length ≤ k) (fun i _ => 30 - (intOf i).toNat)
  case atStart => exact ⟨0, _, by omega, by omega, rfl, HM, by simp [DS.new]⟩
  case round =>
    clear HM
    obtain ⟨k, S, hk, hk30, rfl, hM, hwk⟩ := hrel
    by_cases hlt : k < l.length ∧ k < 30
    · obtain ⟨hlt1, hlt2⟩ := hlt
      obtain ⟨kb, ko, hA, hcl⟩ := HI1.out.2 (by omega)
      subst hA
      have hck : w.cell? ⟨kb, ko + k, none⟩ = some (.int .i64 l[k]) := hcl k _ (List.getElem?_eq_getElem hlt1)
      have HCK : Hid (∀ wz, Fr Nob w wz → wz.cell? ⟨kb, ko + k, none⟩ = some (.int .i64 l[k])) := fun wz hz => (hz.cell (cell_lt hck) (fun h => h)).trans hck
      clear hcl hck
      generalize l[k] = x at *
      obtain ⟨y, hy, hy0, hy1⟩ : ∃ y, bits .and .i64 x 255 = y ∧ 0 ≤ y ∧ y < 256 := ⟨x % 256, i64_and255 x, by omega, by omega⟩
      obtain ⟨z, hz, hz0, hz1⟩ : ∃ z, y.tmod 12 = z ∧ 0 ≤ z ∧ z < 12 := ⟨y % 12, Int.tmod_eq_emod_of_nonneg hy0, by omega, by omega⟩
      obtain ⟨u, hu⟩ : ∃ u, bits .and .i64 fl 31 = u := ⟨_, rfl⟩
      have hwl : S.waits.length < 4000000000 := by omega
      go_wp2
      refine wp_region_quietly (fun W => Fr Nob w W) (by kernel_rfl) ?_
      have hS : Fr Nob w wr.drew := hM.out.frame.drew
      refine wpAnyH_op (i := 0) (some 43) (v := ?v0) (a' := ?a0) rfl rfl (by kernel_rfl) (by kernel_rfl) (by kernel_rfl) (fun _ _ _ h => h) rfl (fun wz hwz => ?h0) ?b0 hS ?_
      case h0 => (go_simp; try with_reducible rfl)
      case b0 => (simp only [Act.put, List.setIfInBounds_toArray, List.set_cons_zero, List.set_cons_succ]; rfl)
      refine wpAnyH_op (i := 1) (some 44) (v := ?v1) (a' := ?a1) rfl rfl (by kernel_rfl) (by kernel_rfl) (by kernel_rfl) (fun _ _ _ h => h) rfl (fun wz hwz => ?h1) ?b1 hS ?_
      case h1 => (go_simp; try with_reducible rfl)
      case b1 => (simp only [Act.put, List.setIfInBounds_toArray, List.set_cons_zero, List.set_cons_succ]; rfl)
      refine wpAnyH_op (i := 2) (some 45) (v := ?v2) (a' := ?a2) rfl rfl (by kernel_rfl) (by kernel_rfl) (by kernel_rfl) (fun _ _ _ h => h) rfl (fun wz hwz => ?h2) ?b2 hS ?_
      case h2 => (go_simp; try with_reducible rfl)
      case b2 => (simp only [Act.put, List.setIfInBounds_toArray, List.set_cons_zero, List.set_cons_succ]; rfl)
      refine wpAnyH_op (i := 3) (some 46) (v := ?v3) (a' := ?a3) rfl rfl (by kernel_rfl) (by kernel_rfl) (by kernel_rfl) (fun _ _ _ h => h) rfl (fun wz hwz => ?h3) ?b3 hS ?_
      case h3 => (go_simp; try with_reducible rfl)
      case b3 => (simp only [Act.put, List.setIfInBounds_toArray, List.set_cons_zero, List.set_cons_succ]; rfl)
      refine wpAnyH_op (i := 4) (some 47) (v := ?v4) (a' := ?a4) rfl rfl (by kernel_rfl) (by kernel_rfl) (by kernel_rfl) (fun _ _ _ h => h) rfl (fun wz hwz => ?h4) ?b4 hS ?_
      case h4 => (have ck := HCK.out wz hwz; go_simp; try with_reducible rfl)
      case b4 => (simp only [Act.put, List.setIfInBounds_toArray, List.set_cons_zero, List.set_cons_succ]; rfl)
      refine wpAnyH_op (i := 5) (some 48) (v := ?v5) (a' := ?a5) rfl rfl (by kernel_rfl) (by kernel_rfl) (by kernel_rfl) (fun _ _ _ h => h) rfl (fun wz hwz => ?h5) ?b5 hS ?_
      case h5 => (go_simp; try with_reducible rfl)
      case b5 => (simp only [Act.put, List.setIfInBounds_toArray, List.set_cons_zero, List.set_cons_succ]; rfl)
      refine wpAnyH_op (i := 6) (some 49) (v := (.int .i64 z)) (a' := ?a6) rfl rfl (by kernel_rfl) (by kernel_rfl) (by kernel_rfl) (fun _ _ _ h => h) rfl (fun wz hwz => ?h6) ?b6 hS ?_
      case h6 => (go_simp; try with_reducible rfl)
      case b6 => (simp only [Act.put, List.setIfInBounds_toArray, List.set_cons_zero, List.set_cons_succ]; rfl)
      refine wpAnyH_op (i := 7) (some 50) (v := ?v7) (a' := ?a7) rfl rfl (by kernel_rfl) (by kernel_rfl) (by kernel_rfl) (fun _ _ _ h => h) rfl (fun wz hwz => ?h7) ?b7 hS ?_
      case h7 => (go_simp; try with_reducible rfl)
      case b7 => (simp only [Act.put, List.setIfInBounds_toArray, List.set_cons_zero, List.set_cons_succ]; rfl)
      refine wpAnyH_op (i := 8) (some 51) (v := (.int .i64 ((k : Int) + 1))) (a' := ?a8) rfl rfl (by kernel_rfl) (by kernel_rfl) (by kernel_rfl) (fun _ _ _ h => h) rfl (fun wz hwz => ?h8) ?b8 hS ?_
      case h8 => (have e8 := wrap_fit (x := (k : Int) + 1) (by omega) (by omega); go_simp; try with_reducible rfl)
      case b8 => (simp only [Act.put, List.setIfInBounds_toArray, List.set_cons_zero, List.set_cons_succ]; rfl)
      refine wpAnyH_call (i := 9) rfl (by kernel_rfl) rfl ?run9 (Sector_ok (k + 1) _ (by omega) (by omega)) ?_
      case run9 => go_simp
      rintro e w3 ⟨rfl, hr3, hf3⟩
      have HR3 := Lib.hid hr3
      have HM3 := Lib.hid ((hM.out.new (Fr.refl _ _).drew).new hf3)
      have hS3 : Fr Nob w w3 := HM3.out.frame
      clear hr3 hf3
      refine ⟨_, rfl, hS3, ?_⟩
      refine wpAnyH_at (some 52) (a' := ?a9) rfl ?b9 ?_
      case b9 => (simp only [Act.put, List.setIfInBounds_toArray, List.set_cons_zero, List.set_cons_succ]; rfl)
      refine wpAnyH_call (i := 10) rfl (by kernel_rfl) rfl ?run10 (HM3.out.write _ _ _ (by omega) (by omega) (sect_length _) HR3.out hwl) ?_
      case run10 => go_simp
      rintro e w4 ⟨rfl, hM4⟩
      have HM4 := Lib.hid hM4
      have hS4 : Fr Nob w w4 := hM4.frame
      have hW4 : (S.wr0 z.toNat (sect (k + 1))).waits.length ≤ k + 1 := by simp [DS.wr0]; omega
      clear hM4
      refine ⟨_, rfl, hS4, ?_⟩
      refine wpAnyH_at (some 53) (a' := ?a10) rfl ?b10 ?_
      case b10 => (simp only [Act.put, List.setIfInBounds_toArray, List.set_cons_zero, List.set_cons_succ]; rfl)
      by_cases hku : (k : Int) = u
      · have hkb : ((k : Int) == u) = true := by simpa using hku
        clear hku
        refine wpAnyH_op (i := 11) (some 54) (v := ?v11f) (a' := ?a11f) rfl rfl (by kernel_rfl) (by kernel_rfl) (by kernel_rfl) (fun _ _ _ h => h) rfl (fun wz hwz => ?h11f) ?b11f hS4 ?_
        case h11f => (go_simp; try with_reducible rfl)
        case b11f => (simp only [Act.put, List.setIfInBounds_toArray, List.set_cons_zero, List.set_cons_succ]; rfl)
        refine wpAnyH_op (i := 12) (some 55) (v := ?v12f) (a' := ?a12f) rfl rfl (by kernel_rfl) (by kernel_rfl) (by kernel_rfl) (fun _ _ _ h => h) rfl (fun wz hwz => ?h12f) ?b12f hS4 ?_
        case h12f => (go_simp; try with_reducible rfl)
        case b12f => (simp only [Act.put, List.setIfInBounds_toArray, List.set_cons_zero, List.set_cons_succ]; rfl)
        refine wpAnyH_op (i := 13) (some 56) (v := ?v13f) (a' := ?a13f) rfl rfl (by kernel_rfl) (by kernel_rfl) (by kernel_rfl) (fun _ _ _ h => h) rfl (fun wz hwz => ?h13f) ?b13f hS4 ?_
        case h13f => (go_simp; try with_reducible rfl)
        case b13f => (simp only [Act.put, List.setIfInBounds_toArray, List.set_cons_zero, List.set_cons_succ]; rfl)
        refine wpAnyH_op (i := 14) (some 57) (v := ?v14f) (a' := ?a14f) rfl rfl (by kernel_rfl) (by kernel_rfl) (by kernel_rfl) (fun _ _ _ h => h) rfl (fun wz hwz => ?h14f) ?b14f hS4 ?_
        case h14f => (go_simp; try with_reducible rfl)
        case b14f => (simp only [Act.put, List.setIfInBounds_toArray, List.set_cons_zero, List.set_cons_succ]; rfl)
        refine wpAnyH_op (i := 15) (some 58) (v := ?v15f) (a' := ?a15f) rfl rfl (by kernel_rfl) (by kernel_rfl) (by kernel_rfl) (fun _ _ _ h => h) rfl (fun wz hwz => ?h15f) ?b15f hS4 ?_
        case h15f => (go_simp; try with_reducible rfl)
        case b15f => (simp only [Act.put, List.setIfInBounds_toArray, List.set_cons_zero, List.set_cons_succ]; rfl)
        refine wpAnyH_op (i := 16) (some 59) (v := (.bool true)) (a' := ?a16f) rfl rfl (by kernel_rfl) (by kernel_rfl) (by kernel_rfl) (fun _ _ _ h => h) rfl (fun wz hwz => ?h16f) ?b16f hS4 ?_
        case h16f => (go_simp; try with_reducible rfl)
        case b16f => (simp only [Act.put, List.setIfInBounds_toArray, List.set_cons_zero, List.set_cons_succ]; rfl)
        refine wpAnyH_op (i := 17) (some 60) (v := ?v17f) (a' := ?a17f) rfl rfl (by kernel_rfl) (by kernel_rfl) (by kernel_rfl) (fun _ _ _ h => h) rfl (fun wz hwz => ?h17f) ?b17f hS4 ?_
        case h17f => (go_simp; try with_reducible rfl)
        case b17f => (simp only [Act.put, List.setIfInBounds_toArray, List.set_cons_zero, List.set_cons_succ]; rfl)
        refine wpAnyH_op (i := 18) (some 61) (v := ?v18f) (a' := ?a18f) rfl rfl (by kernel_rfl) (by kernel_rfl) (by kernel_rfl) (fun _ _ _ h => h) rfl (fun wz hwz => ?h18f) ?b18f hS4 ?_
        case h18f => (go_simp; try with_reducible rfl)
        case b18f => (simp only [Act.put, List.setIfInBounds_toArray, List.set_cons_zero, List.set_cons_succ]; rfl)
        refine wpAnyH_call (i := 19) rfl (by kernel_rfl) rfl ?run19f (HM4.out.flush (by omega)) ?_
        case run19f => go_simp
        rintro e w5 ⟨rfl, hM5⟩
        have HM5 := Lib.hid hM5
        have hS5 : Fr Nob w w5 := hM5.frame
        clear hM5
        refine ⟨_, rfl, hS5, ?_⟩
        refine wpAnyH_at (some 62) (a' := ?a19f) rfl ?b19f ?_
        case b19f => (simp only [Act.put, List.setIfInBounds_toArray, List.set_cons_zero, List.set_cons_succ]; rfl)
        refine wpAnyH_op (i := 20) (some 63) (v := ?v20f) (a' := ?a20f) rfl rfl (by kernel_rfl) (by kernel_rfl) (by kernel_rfl) (fun _ _ _ h => h) rfl (fun wz hwz => ?h20f) ?b20f hS5 ?_
        case h20f => (go_simp; try with_reducible rfl)
        case b20f => (simp only [Act.put, List.setIfInBounds_toArray, List.set_cons_zero, List.set_cons_succ]; rfl)
        refine wpAnyH_op (i := 21) (some 64) (v := ?v21f) (a' := ?a21f) rfl rfl (by kernel_rfl) (by kernel_rfl) (by kernel_rfl) (fun _ _ _ h => h) rfl (fun wz hwz => ?h21f) ?b21f hS5 ?_
        case h21f => (go_simp; try with_reducible rfl)
        case b21f => (simp only [Act.put, List.setIfInBounds_toArray, List.set_cons_zero, List.set_cons_succ]; rfl)
        refine wpAnyH_op (i := 22) (some 65) (v := ?v22f) (a' := ?a22f) rfl rfl (by kernel_rfl) (by kernel_rfl) (by kernel_rfl) (fun _ _ _ h => h) rfl (fun wz hwz => ?h22f) ?b22f hS5 ?_
        case h22f => (go_simp; try with_reducible rfl)
        case b22f => (simp only [Act.put, List.setIfInBounds_toArray, List.set_cons_zero, List.set_cons_succ]; rfl)
        refine wpAnyH_done (by kernel_rfl) ?_ _
        dsimp only [OnlyNormal]
        go_wp2
        go_roundw
        case rel => exact ⟨k + 1, _, by omega, by omega, by go_num, HM5, by simp [DS.flush0]⟩
        case measure => simp [intOf]; omega
      · have hkb : ((k : Int) == u) = false := by simpa using hku
        clear hku
        refine wpAnyH_op (i := 11) (some 54) (v := ?v11n) (a' := ?a11n) rfl rfl (by kernel_rfl) (by kernel_rfl) (by kernel_rfl) (fun _ _ _ h => h) rfl (fun wz hwz => ?h11n) ?b11n hS4 ?_
        case h11n => (go_simp; try with_reducible rfl)
        case b11n => (simp only [Act.put, List.setIfInBounds_toArray, List.set_cons_zero, List.set_cons_succ]; rfl)
        refine wpAnyH_op (i := 12) (some 55) (v := ?v12n) (a' := ?a12n) rfl rfl (by kernel_rfl) (by kernel_rfl) (by kernel_rfl) (fun _ _ _ h => h) rfl (fun wz hwz => ?h12n) ?b12n hS4 ?_
        case h12n => (go_simp; try with_reducible rfl)
        case b12n => (simp only [Act.put, List.setIfInBounds_toArray, List.set_cons_zero, List.set_cons_succ]; rfl)
        refine wpAnyH_op (i := 13) (some 56) (v := ?v13n) (a' := ?a13n) rfl rfl (by kernel_rfl) (by kernel_rfl) (by kernel_rfl) (fun _ _ _ h => h) rfl (fun wz hwz => ?h13n) ?b13n hS4 ?_
        case h13n => (go_simp; try with_reducible rfl)
        case b13n => (simp only [Act.put, List.setIfInBounds_toArray, List.set_cons_zero, List.set_cons_succ]; rfl)
        refine wpAnyH_op (i := 14) (some 57) (v := ?v14n) (a' := ?a14n) rfl rfl (by kernel_rfl) (by kernel_rfl) (by kernel_rfl) (fun _ _ _ h => h) rfl (fun wz hwz => ?h14n) ?b14n hS4 ?_
        case h14n => (go_simp; try with_reducible rfl)
        case b14n => (simp only [Act.put, List.setIfInBounds_toArray, List.set_cons_zero, List.set_cons_succ]; rfl)
        refine wpAnyH_op (i := 15) (some 58) (v := ?v15n) (a' := ?a15n) rfl rfl (by kernel_rfl) (by kernel_rfl) (by kernel_rfl) (fun _ _ _ h => h) rfl (fun wz hwz => ?h15n) ?b15n hS4 ?_
        case h15n => (go_simp; try with_reducible rfl)
        case b15n => (simp only [Act.put, List.setIfInBounds_toArray, List.set_cons_zero, List.set_cons_succ]; rfl)
        refine wpAnyH_op (i := 16) (some 59) (v := (.bool false)) (a' := ?a16n) rfl rfl (by kernel_rfl) (by kernel_rfl) (by kernel_rfl) (fun _ _ _ h => h) rfl (fun wz hwz => ?h16n) ?b16n hS4 ?_
        case h16n => (go_simp; try with_reducible rfl)
        case b16n => (simp only [Act.put, List.setIfInBounds_toArray, List.set_cons_zero, List.set_cons_succ]; rfl)
        refine wpAnyH_op (i := 17) (some 60) (v := ?v17n) (a' := ?a17n) rfl rfl (by kernel_rfl) (by kernel_rfl) (by kernel_rfl) (fun _ _ _ h => h) rfl (fun wz hwz => ?h17n) ?b17n hS4 ?_
        case h17n => (go_simp; try with_reducible rfl)
        case b17n => (simp only [Act.put, List.setIfInBounds_toArray, List.set_cons_zero, List.set_cons_succ]; rfl)
        refine wpAnyH_pass (i := 18) (some 61) (a' := ?a18n) rfl rfl (by kernel_rfl) (by kernel_rfl) (by kernel_rfl) (fun _ _ _ h => h) rfl ?b18n hS4 ?_
        case b18n => (simp only [Act.put, List.setIfInBounds_toArray, List.set_cons_zero, List.set_cons_succ]; rfl)
        refine wpAnyH_pass (i := 19) (some 62) (a' := ?a19n) rfl rfl (by kernel_rfl) (by kernel_rfl) (by kernel_rfl) (fun _ _ _ h => h) rfl ?b19n hS4 ?_
        case b19n => (simp only [Act.put, List.setIfInBounds_toArray, List.set_cons_zero, List.set_cons_succ]; rfl)
        refine wpAnyH_pass (i := 20) (some 63) (a' := ?a20n) rfl rfl (by kernel_rfl) (by kernel_rfl) (by kernel_rfl) (fun _ _ _ h => h) rfl ?b20n hS4 ?_
        case b20n => (simp only [Act.put, List.setIfInBounds_toArray, List.set_cons_zero, List.set_cons_succ]; rfl)
        refine wpAnyH_op (i := 21) (some 64) (v := ?v21n) (a' := ?a21n) rfl rfl (by kernel_rfl) (by kernel_rfl) (by kernel_rfl) (fun _ _ _ h => h) rfl (fun wz hwz => ?h21n) ?b21n hS4 ?_
        case h21n => (go_simp; try with_reducible rfl)
        case b21n => (simp only [Act.put, List.setIfInBounds_toArray, List.set_cons_zero, List.set_cons_succ]; rfl)
        refine wpAnyH_op (i := 22) (some 65) (v := ?v22n) (a' := ?a22n) rfl rfl (by kernel_rfl) (by kernel_rfl) (by kernel_rfl) (fun _ _ _ h => h) rfl (fun wz hwz => ?h22n) ?b22n hS4 ?_
        case h22n => (go_simp; try with_reducible rfl)
        case b22n => (simp only [Act.put, List.setIfInBounds_toArray, List.set_cons_zero, List.set_cons_succ]; rfl)
        refine wpAnyH_done (by kernel_rfl) ?_ _
        dsimp only [OnlyNormal]
        go_wp2
        go_roundw
        case rel => exact ⟨k + 1, _, by omega, by omega, by go_num, HM4, hW4⟩
        case measure => simp [intOf]; omega
    · have hnk : ¬ ((k : Int) < (l.length : Int)) ∨ ((k : Int) < (l.length : Int) ∧ ¬ ((k : Int) < 30)) := by omega
      obtain ⟨R, hD, hR, hF, hd1, hd2, hd3⟩ := hM.out
      have HD := Lib.hid hD
      have HR := Lib.hid hR
      have HF := Lib.hid hF
      have Hd1 := Lib.hid hd1
      have Hd2 := Lib.hid hd2
      have Hd3 := Lib.hid hd3
      clear hD hR hF hd1 hd2 hd3 hM hlt
      have hwl : S.waits.length < 4000000000 := by omega
      rcases hnk with hnk | hnk
      · go_wp2_with fail
        refine (Copy_ok HD.out hwl).mono ?_
        rintro e w2 ⟨c, rfl, hc, hDc, hf2⟩
        have HDc := Lib.hid hDc
        have HF2 := Lib.hid hf2
        have HDd := Lib.hid (HD.out.new hf2)
        clear hDc hf2 hnk
        go_wp2_with fail
        refine (Writes_any HDc.out).mono ?_
        rintro e w3 ⟨rfl, rfl⟩
        go_wp2_with fail
        refine (Writes_any HDd.out).mono ?_
        rintro e w3 ⟨rfl, rfl⟩
        go_wp2_with fail
        refine (Waiting_any HDc.out).mono ?_
        rintro e w3 ⟨rfl, rfl⟩
        go_wp2_with fail
        refine (Waiting_any HDd.out).mono ?_
        rintro e w3 ⟨rfl, rfl⟩
        go_wp2_with fail
        refine (Sectors_any HDc.out).mono ?_
        rintro e w3 ⟨rfl, rfl⟩
        rw [Hd3.out]
        go_wp2
        have e0 : strs (fill S.now 0) = strs (List.replicate 12 []) := by unfold fill; rw [Hd3.out]; rfl
        have HM2 : Hid (TwoMem w (w2.alloc (.cells (strs (List.replicate 12 [])) 43)) p c w2.heap.size (fill S.now 0) S S) :=
          OneMem.copied HD.out HR.out HF.out Hd1.out Hd2.out Hd3.out HF2.out HDc.out (by rw [e0]; exact Blk.new w2 _ _) ((Fr.refl _ w2).alloc _)
        clear e0 HD HR HF Hd1 Hd2 Hd3 HF2 HDc HDd
        obtain ⟨ab, hab⟩ : ∃ ab, w2.heap.size = ab := ⟨_, rfl⟩
        rw [hab] at HM2 ⊢
        clear hab
        go_loopw [14, 15, 16, 17, 18] (fun i _ _ _ _ wr => ∃ j : Nat, j ≤ 12 ∧ i = .int .i64 j ∧ Hid (TwoMem w wr p c ab (fill S.now j) S S)) (fun i _ _ _ _ _ => 12 - (intOf i).toNat)
        case atStart => exact ⟨0, by omega, rfl, HM2⟩
        case round =>
          clear HM2
          obtain ⟨j, hj, rfl, hM⟩ := hrel
          have hdl := hM.out.dlen
          by_cases hlj : j < 12
          · have hjL : j < S.now.length := by omega
            have HFs := Lib.hid (fill_set hjL)
            have HSn : Hid (S.now[j]? = some S.now[j]) := List.getElem?_eq_getElem hjL
            obtain ⟨s0, hs0⟩ := fill_get hjL
            generalize S.now[j] = s at *
            have HL := Lib.hid (hM.out.len64 HSn.out)
            have Hs0 := Lib.hid hs0
            clear hs0
            go_wp2_with fail
            refine (hM.out.readD _ s (by omega) (by rw [Int.toNat_natCast]; exact HSn.out)).mono ?_
            rintro e w5 ⟨rfl, hr5, hM5, hf5⟩
            have HR5 := Lib.hid hr5
            have HM5 := Lib.hid hM5
            clear hr5 hM5 hf5
            go_wp2_with fail
            refine (HM5.out.readC _ s (by omega) (by rw [Int.toNat_natCast]; exact HSn.out)).mono ?_
            rintro e w6 ⟨rfl, hr6, hM6, hf6⟩
            have HM6 := Lib.hid hM6
            have q5 := Row64.conv (HR5.out.fr hf6 (fun h => h)) HL.out
            have q6 := Row64.conv hr6 HL.out
            clear hr6 hM6 hf6
            obtain ⟨ca, fa⟩ := HM6.out.cell Hs0.out
            have HM7 := Lib.hid (HM6.out.note j s)
            rw [HFs.out] at HM7
            go_wp2
            go_roundw
            case rel => exact ⟨j + 1, by omega, by go_num, HM7⟩
            case measure => simp [intOf]; omega
          · obtain rfl : j = 12 := by omega
            have hM2 := hM.out
            rw [← hdl, fill_all] at hM2
            have HM3 := Lib.hid hM2
            have HWl : Hid (S.waits.length ≤ 30) := by show _ ≤ _; omega
            clear hM2 hM hdl
            go_wp2
            go_loopw [19] (fun i wr => ∃ (q : Nat) (Sc : DS), q ≤ m.length ∧ q ≤ 20 ∧ i = .int .i64 q ∧ Hid (TwoMem w wr p c ab S.now S Sc) ∧ Sc.waits.length ≤ 30 + q) (fun i _ => 20 - (intOf i).toNat)
            case atStart => exact ⟨0, _, by omega, by omega, rfl, HM3, by have := HWl.out; omega⟩
            case round =>
              clear HM3
              obtain ⟨q, Sc, hq, hq20, rfl, hM, hwq⟩ := hrel
              by_cases hlq : q < m.length ∧ q < 20
              · obtain ⟨hlt1, hlt2⟩ := hlq
                obtain ⟨kb, ko, hA, hcl⟩ := HI2.out.2 (by omega)
                subst hA
                have hck : w.cell? ⟨kb, ko + q, none⟩ = some (.int .i64 m[q]) := hcl q _ (List.getElem?_eq_getElem hlt1)
                have HCK : Hid (∀ wz, Fr Nob w wz → wz.cell? ⟨kb, ko + q, none⟩ = some (.int .i64 m[q])) := fun wz hz => (hz.cell (cell_lt hck) (fun h => h)).trans hck
                clear hcl hck
                generalize m[q] = x at *
                obtain ⟨y, hy, hy0, hy1⟩ : ∃ y, bits .and .i64 x 255 = y ∧ 0 ≤ y ∧ y < 256 := ⟨x % 256, i64_and255 x, by omega, by omega⟩
                obtain ⟨z, hz, hz0, hz1⟩ : ∃ z, y.tmod 12 = z ∧ 0 ≤ z ∧ z < 12 := ⟨y % 12, Int.tmod_eq_emod_of_nonneg hy0, by omega, by omega⟩
                have hwl : Sc.waits.length < 4000000000 := by omega
                go_wp2
                refine wp_region_quietly (fun W => Fr Nob w W) (by kernel_rfl) ?_
                have hS : Fr Nob w wr.drew := hM.out.frame.drew
                refine wpAnyH_op (i := 0) (some 132) (v := ?v0p) (a' := ?a0p) rfl rfl (by kernel_rfl) (by kernel_rfl) (by kernel_rfl) (fun _ _ _ h => h) rfl (fun wz hwz => ?h0p) ?b0p hS ?_
                case h0p => (go_simp; try with_reducible rfl)
                case b0p => (simp only [Act.put, List.setIfInBounds_toArray, List.set_cons_zero, List.set_cons_succ]; rfl)
                refine wpAnyH_op (i := 1) (some 133) (v := ?v1p) (a' := ?a1p) rfl rfl (by kernel_rfl) (by kernel_rfl) (by kernel_rfl) (fun _ _ _ h => h) rfl (fun wz hwz => ?h1p) ?b1p hS ?_
                case h1p => (go_simp; try with_reducible rfl)
                case b1p => (simp only [Act.put, List.setIfInBounds_toArray, List.set_cons_zero, List.set_cons_succ]; rfl)
                refine wpAnyH_op (i := 2) (some 134) (v := ?v2p) (a' := ?a2p) rfl rfl (by kernel_rfl) (by kernel_rfl) (by kernel_rfl) (fun _ _ _ h => h) rfl (fun wz hwz => ?h2p) ?b2p hS ?_
                case h2p => (go_simp; try with_reducible rfl)
                case b2p => (simp only [Act.put, List.setIfInBounds_toArray, List.set_cons_zero, List.set_cons_succ]; rfl)
                refine wpAnyH_op (i := 3) (some 135) (v := ?v3p) (a' := ?a3p) rfl rfl (by kernel_rfl) (by kernel_rfl) (by kernel_rfl) (fun _ _ _ h => h) rfl (fun wz hwz => ?h3p) ?b3p hS ?_
                case h3p => (go_simp; try with_reducible rfl)
                case b3p => (simp only [Act.put, List.setIfInBounds_toArray, List.set_cons_zero, List.set_cons_succ]; rfl)
                refine wpAnyH_op (i := 4) (some 136) (v := ?v4p) (a' := ?a4p) rfl rfl (by kernel_rfl) (by kernel_rfl) (by kernel_rfl) (fun _ _ _ h => h) rfl (fun wz hwz => ?h4p) ?b4p hS ?_
                case h4p => (have ck := HCK.out wz hwz; go_simp; try with_reducible rfl)
                case b4p => (simp only [Act.put, List.setIfInBounds_toArray, List.set_cons_zero, List.set_cons_succ]; rfl)
                refine wpAnyH_op (i := 5) (some 137) (v := ?v5p) (a' := ?a5p) rfl rfl (by kernel_rfl) (by kernel_rfl) (by kernel_rfl) (fun _ _ _ h => h) rfl (fun wz hwz => ?h5p) ?b5p hS ?_
                case h5p => (go_simp; try with_reducible rfl)
                case b5p => (simp only [Act.put, List.setIfInBounds_toArray, List.set_cons_zero, List.set_cons_succ]; rfl)
                refine wpAnyH_op (i := 6) (some 138) (v := (.int .i64 z)) (a' := ?a6p) rfl rfl (by kernel_rfl) (by kernel_rfl) (by kernel_rfl) (fun _ _ _ h => h) rfl (fun wz hwz => ?h6p) ?b6p hS ?_
                case h6p => (go_simp; try with_reducible rfl)
                case b6p => (simp only [Act.put, List.setIfInBounds_toArray, List.set_cons_zero, List.set_cons_succ]; rfl)
                refine wpAnyH_op (i := 7) (some 139) (v := ?v7p) (a' := ?a7p) rfl rfl (by kernel_rfl) (by kernel_rfl) (by kernel_rfl) (fun _ _ _ h => h) rfl (fun wz hwz => ?h7p) ?b7p hS ?_
                case h7p => (go_simp; try with_reducible rfl)
                case b7p => (simp only [Act.put, List.setIfInBounds_toArray, List.set_cons_zero, List.set_cons_succ]; rfl)
                refine wpAnyH_op (i := 8) (some 140) (v := (.int .i64 (500 + (q : Int)))) (a' := ?a8p) rfl rfl (by kernel_rfl) (by kernel_rfl) (by kernel_rfl) (fun _ _ _ h => h) rfl (fun wz hwz => ?h8p) ?b8p hS ?_
                case h8p => (have e8 := wrap_fit (x := 500 + (q : Int)) (by omega) (by omega); go_simp; try with_reducible rfl)
                case b8p => (simp only [Act.put, List.setIfInBounds_toArray, List.set_cons_zero, List.set_cons_succ]; rfl)
                refine wpAnyH_call (i := 9) rfl (by kernel_rfl) rfl ?run9p (Sector_ok (500 + q) _ (by omega) (by omega)) ?_
                case run9p => go_simp
                rintro e w3 ⟨rfl, hr3, hf3⟩
                have HR3 := Lib.hid hr3
                have HM3 := Lib.hid ((hM.out.new (Fr.refl _ _).drew).new hf3)
                have hS3 : Fr Nob w w3 := HM3.out.frame
                clear hr3 hf3
                refine ⟨_, rfl, hS3, ?_⟩
                refine wpAnyH_at (some 141) (a' := ?a9p) rfl ?b9p ?_
                case b9p => (simp only [Act.put, List.setIfInBounds_toArray, List.set_cons_zero, List.set_cons_succ]; rfl)
                refine wpAnyH_call (i := 10) rfl (by kernel_rfl) rfl ?run10p (HM3.out.writeC _ _ _ (by omega) (by omega) (sect_length _) HR3.out hwl) ?_
                case run10p => go_simp
                rintro e w4 ⟨rfl, hM4⟩
                have HM4 := Lib.hid hM4
                have hS4 : Fr Nob w w4 := hM4.frame
                have hW4 : (Sc.wr0 z.toNat (sect (500 + q))).waits.length ≤ 30 + (q + 1) := by simp [DS.wr0]; omega
                clear hM4
                refine ⟨_, rfl, hS4, ?_⟩
                refine wpAnyH_at (some 142) (a' := ?a10p) rfl ?b10p ?_
                case b10p => (simp only [Act.put, List.setIfInBounds_toArray, List.set_cons_zero, List.set_cons_succ]; rfl)
                refine wpAnyH_op (i := 11) (some 143) (v := ?v11p) (a' := ?a11p) rfl rfl (by kernel_rfl) (by kernel_rfl) (by kernel_rfl) (fun _ _ _ h => h) rfl (fun wz hwz => ?h11p) ?b11p hS4 ?_
                case h11p => (go_simp; try with_reducible rfl)
                case b11p => (simp only [Act.put, List.setIfInBounds_toArray, List.set_cons_zero, List.set_cons_succ]; rfl)
                refine wpAnyH_done (by kernel_rfl) ?_ _
                dsimp only [OnlyNormal]
                go_wp2
                go_roundw
                case rel => exact ⟨q + 1, _, by omega, by omega, by go_num, HM4, hW4⟩
                case measure => simp [intOf]; omega
              · have hnq : ¬ ((q : Int) < (m.length : Int)) ∨ ((q : Int) < (m.length : Int) ∧ ¬ ((q : Int) < 20)) := by omega
                have hwl : Sc.waits.length < 4000000000 := by omega
                clear hlq
                rcases hnq with hnq | hnq
                · go_wp2_with fail
                  refine (hM.out.crashC _ _ _ HI3.out hr3 hwl).mono ?_
                  rintro e w4 ⟨rfl, hM4⟩
                  have HM4 := Lib.hid hM4
                  clear hM4 hM hnq
                  go_wp2
                  go_loopw [20, 21, 22] (fun i _ _ wr => ∃ j : Nat, j ≤ 12 ∧ i = .int .i64 j ∧ Hid (TwoMem w wr p c ab S.now S (Sc.crash n))) (fun i _ _ _ => 12 - (intOf i).toNat)
                  case atStart => exact ⟨0, by omega, rfl, HM4⟩
                  case round =>
                    clear HM4
                    obtain ⟨j, hj, rfl, hM⟩ := hrel
                    have hdl := hM.out.dlen
                    by_cases hlj : j < 12
                    · have hjL : j < S.now.length := by omega
                      have HSn : Hid (S.now[j]? = some S.now[j]) := List.getElem?_eq_getElem hjL
                      generalize S.now[j] = s at *
                      have HL := Lib.hid (hM.out.len64 HSn.out)
                      go_wp2_with fail
                      refine (hM.out.readD _ s (by omega) (by rw [Int.toNat_natCast]; exact HSn.out)).mono ?_
                      rintro e w5 ⟨rfl, hr5, hM5, hf5⟩
                      have HR5 := Lib.hid hr5
                      have HM5 := Lib.hid hM5
                      clear hr5 hM5 hf5
                      go_wp2
                      refine wp_region_quietly (fun W => Fr Nob w5 W) (by kernel_rfl) ?_
                      have hS : Fr Nob w5 w5.drew := (Fr.refl _ _).drew
                      refine wpAnyH_op (i := 0) (some 157) (v := ?v0pr) (a' := ?a0pr) rfl rfl (by kernel_rfl) (by kernel_rfl) (by kernel_rfl) (fun _ _ _ h => h) rfl (fun wz hwz => ?h0pr) ?b0pr hS ?_
                      case h0pr => (go_simp; try with_reducible rfl)
                      case b0pr => (simp only [Act.put, List.setIfInBounds_toArray, List.set_cons_zero, List.set_cons_succ]; rfl)
                      refine wpAnyH_op (i := 1) (some 158) (v := ?v1pr) (a' := ?a1pr) rfl rfl (by kernel_rfl) (by kernel_rfl) (by kernel_rfl) (fun _ _ _ h => h) rfl (fun wz hwz => ?h1pr) ?b1pr hS ?_
                      case h1pr => (go_simp; try with_reducible rfl)
                      case b1pr => (simp only [Act.put, List.setIfInBounds_toArray, List.set_cons_zero, List.set_cons_succ]; rfl)
                      refine wpAnyH_op (i := 2) (some 159) (v := ?v2pr) (a' := ?a2pr) rfl rfl (by kernel_rfl) (by kernel_rfl) (by kernel_rfl) (fun _ _ _ h => h) rfl (fun wz hwz => ?h2pr) ?b2pr hS ?_
                      case h2pr => (go_simp; try with_reducible rfl)
                      case b2pr => (simp only [Act.put, List.setIfInBounds_toArray, List.set_cons_zero, List.set_cons_succ]; rfl)
                      refine wpAnyH_op (i := 3) (some 160) (v := ?v3pr) (a' := ?a3pr) rfl rfl (by kernel_rfl) (by kernel_rfl) (by kernel_rfl) (fun _ _ _ h => h) rfl (fun wz hwz => ?h3pr) ?b3pr hS ?_
                      case h3pr => (go_simp; try with_reducible rfl)
                      case b3pr => (simp only [Act.put, List.setIfInBounds_toArray, List.set_cons_zero, List.set_cons_succ]; rfl)
                      refine wpAnyH_op (i := 4) (some 161) (v := ?v4pr) (a' := ?a4pr) rfl rfl (by kernel_rfl) (by kernel_rfl) (by kernel_rfl) (fun _ _ _ h => h) rfl (fun wz hwz => ?h4pr) ?b4pr hS ?_
                      case h4pr => (have q5 := Row64.conv (HR5.out.fr hwz (fun h => h)) HL.out; go_simp; try with_reducible rfl)
                      case b4pr => (simp only [Act.put, List.setIfInBounds_toArray, List.set_cons_zero, List.set_cons_succ]; rfl)
                      refine wpAnyH_op (i := 5) (some 162) (v := ?v5pr) (a' := ?a5pr) rfl rfl (by kernel_rfl) (by kernel_rfl) (by kernel_rfl) (fun _ _ _ h => h) rfl (fun wz hwz => ?h5pr) ?b5pr hS ?_
                      case h5pr => (go_simp; try with_reducible rfl)
                      case b5pr => (simp only [Act.put, List.setIfInBounds_toArray, List.set_cons_zero, List.set_cons_succ]; rfl)
                      refine wpAnyH_op (i := 6) (some 163) (v := ?v6pr) (a' := ?a6pr) rfl rfl (by kernel_rfl) (by kernel_rfl) (by kernel_rfl) (fun _ _ _ h => h) rfl (fun wz hwz => ?h6pr) ?b6pr hS ?_
                      case h6pr => (go_simp; try with_reducible rfl)
                      case b6pr => (simp only [Act.put, List.setIfInBounds_toArray, List.set_cons_zero, List.set_cons_succ]; rfl)
                      refine wpAnyH_op (i := 7) (some 164) (v := ?v7pr) (a' := ?a7pr) rfl rfl (by kernel_rfl) (by kernel_rfl) (by kernel_rfl) (fun _ _ _ h => h) rfl (fun wz hwz => ?h7pr) ?b7pr hS ?_
                      case h7pr => (have ca := ((HM5.out.new hwz).cell HSn.out).1; go_simp; try with_reducible rfl)
                      case b7pr => (simp only [Act.put, List.setIfInBounds_toArray, List.set_cons_zero, List.set_cons_succ]; rfl)
                      refine wpAnyH_op (i := 8) (some 165) (v := ?v8pr) (a' := ?a8pr) rfl rfl (by kernel_rfl) (by kernel_rfl) (by kernel_rfl) (fun _ _ _ h => h) rfl (fun wz hwz => ?h8pr) ?b8pr hS ?_
                      case h8pr => (go_simp; try with_reducible rfl)
                      case b8pr => (simp only [Act.put, List.setIfInBounds_toArray, List.set_cons_zero, List.set_cons_succ]; rfl)
                      refine wpAnyH_op (i := 9) (some 166) (v := ?v9pr) (a' := ?a9pr) rfl rfl (by kernel_rfl) (by kernel_rfl) (by kernel_rfl) (fun _ _ _ h => h) rfl (fun wz hwz => ?h9pr) ?b9pr hS ?_
                      case h9pr => (go_simp; try with_reducible rfl)
                      case b9pr => (simp only [Act.put, List.setIfInBounds_toArray, List.set_cons_zero, List.set_cons_succ]; rfl)
                      refine wpAnyH_done (by kernel_rfl) ?_ _
                      dsimp only [OnlyNormal]
                      go_wp2
                      go_roundw
                      case rel => exact ⟨j + 1, by omega, by go_num, HM5.out.new hS⟩
                      case measure => simp [intOf]; omega
                    · obtain rfl : j = 12 := by omega
                      go_wp2_with fail
                      refine (awake2_any _).mono ?_
                      rintro e w5 ⟨rfl, hf5⟩
                      have hfin := hM.out.frame.trans hf5
                      clear hf5
                      go_wp2
                      go_ret
                      exact ⟨rfl, hfin⟩
                · go_wp2_with fail
                  refine (hM.out.crashC _ _ _ HI3.out hr3 hwl).mono ?_
                  rintro e w4 ⟨rfl, hM4⟩
                  have HM4 := Lib.hid hM4
                  clear hM4 hM hnq
                  go_wp2
                  go_loopw [20, 21, 22] (fun i _ _ wr => ∃ j : Nat, j ≤ 12 ∧ i = .int .i64 j ∧ Hid (TwoMem w wr p c ab S.now S (Sc.crash n))) (fun i _ _ _ => 12 - (intOf i).toNat)
                  case atStart => exact ⟨0, by omega, rfl, HM4⟩
                  case round =>
                    clear HM4
                    obtain ⟨j, hj, rfl, hM⟩ := hrel
                    have hdl := hM.out.dlen
                    by_cases hlj : j < 12
                    · have hjL : j < S.now.length := by omega
                      have HSn : Hid (S.now[j]? = some S.now[j]) := List.getElem?_eq_getElem hjL
                      generalize S.now[j] = s at *
                      have HL := Lib.hid (hM.out.len64 HSn.out)
                      go_wp2_with fail
                      refine (hM.out.readD _ s (by omega) (by rw [Int.toNat_natCast]; exact HSn.out)).mono ?_
                      rintro e w5 ⟨rfl, hr5, hM5, hf5⟩
                      have HR5 := Lib.hid hr5
                      have HM5 := Lib.hid hM5
                      clear hr5 hM5 hf5
                      go_wp2
                      refine wp_region_quietly (fun W => Fr Nob w5 W) (by kernel_rfl) ?_
                      have hS : Fr Nob w5 w5.drew := (Fr.refl _ _).drew
                      refine wpAnyH_op (i := 0) (some 157) (v := ?v0ps) (a' := ?a0ps) rfl rfl (by kernel_rfl) (by kernel_rfl) (by kernel_rfl) (fun _ _ _ h => h) rfl (fun wz hwz => ?h0ps) ?b0ps hS ?_
                      case h0ps => (go_simp; try with_reducible rfl)
                      case b0ps => (simp only [Act.put, List.setIfInBounds_toArray, List.set_cons_zero, List.set_cons_succ]; rfl)
                      refine wpAnyH_op (i := 1) (some 158) (v := ?v1ps) (a' := ?a1ps) rfl rfl (by kernel_rfl) (by kernel_rfl) (by kernel_rfl) (fun _ _ _ h => h) rfl (fun wz hwz => ?h1ps) ?b1ps hS ?_
                      case h1ps => (go_simp; try with_reducible rfl)
                      case b1ps => (simp only [Act.put, List.setIfInBounds_toArray, List.set_cons_zero, List.set_cons_succ]; rfl)
                      refine wpAnyH_op (i := 2) (some 159) (v := ?v2ps) (a' := ?a2ps) rfl rfl (by kernel_rfl) (by kernel_rfl) (by kernel_rfl) (fun _ _ _ h => h) rfl (fun wz hwz => ?h2ps) ?b2ps hS ?_
                      case h2ps => (go_simp; try with_reducible rfl)
                      case b2ps => (simp only [Act.put, List.setIfInBounds_toArray, List.set_cons_zero, List.set_cons_succ]; rfl)
                      refine wpAnyH_op (i := 3) (some 160) (v := ?v3ps) (a' := ?a3ps) rfl rfl (by kernel_rfl) (by kernel_rfl) (by kernel_rfl) (fun _ _ _ h => h) rfl (fun wz hwz => ?h3ps) ?b3ps hS ?_
                      case h3ps => (go_simp; try with_reducible rfl)
                      case b3ps => (simp only [Act.put, List.setIfInBounds_toArray, List.set_cons_zero, List.set_cons_succ]; rfl)
                      refine wpAnyH_op (i := 4) (some 161) (v := ?v4ps) (a' := ?a4ps) rfl rfl (by kernel_rfl) (by kernel_rfl) (by kernel_rfl) (fun _ _ _ h => h) rfl (fun wz hwz => ?h4ps) ?b4ps hS ?_
                      case h4ps => (have q5 := Row64.conv (HR5.out.fr hwz (fun h => h)) HL.out; go_simp; try with_reducible rfl)
                      case b4ps => (simp only [Act.put, List.setIfInBounds_toArray, List.set_cons_zero, List.set_cons_succ]; rfl)
                      refine wpAnyH_op (i := 5) (some 162) (v := ?v5ps) (a' := ?a5ps) rfl rfl (by kernel_rfl) (by kernel_rfl) (by kernel_rfl) (fun _ _ _ h => h) rfl (fun wz hwz => ?h5ps) ?b5ps hS ?_
                      case h5ps => (go_simp; try with_reducible rfl)
                      case b5ps => (simp only [Act.put, List.setIfInBounds_toArray, List.set_cons_zero, List.set_cons_succ]; rfl)
                      refine wpAnyH_op (i := 6) (some 163) (v := ?v6ps) (a' := ?a6ps) rfl rfl (by kernel_rfl) (by kernel_rfl) (by kernel_rfl) (fun _ _ _ h => h) rfl (fun wz hwz => ?h6ps) ?b6ps hS ?_
                      case h6ps => (go_simp; try with_reducible rfl)
                      case b6ps => (simp only [Act.put, List.setIfInBounds_toArray, List.set_cons_zero, List.set_cons_succ]; rfl)
                      refine wpAnyH_op (i := 7) (some 164) (v := ?v7ps) (a' := ?a7ps) rfl rfl (by kernel_rfl) (by kernel_rfl) (by kernel_rfl) (fun _ _ _ h => h) rfl (fun wz hwz => ?h7ps) ?b7ps hS ?_
                      case h7ps => (have ca := ((HM5.out.new hwz).cell HSn.out).1; go_simp; try with_reducible rfl)
                      case b7ps => (simp only [Act.put, List.setIfInBounds_toArray, List.set_cons_zero, List.set_cons_succ]; rfl)
                      refine wpAnyH_op (i := 8) (some 165) (v := ?v8ps) (a' := ?a8ps) rfl rfl (by kernel_rfl) (by kernel_rfl) (by kernel_rfl) (fun _ _ _ h => h) rfl (fun wz hwz => ?h8ps) ?b8ps hS ?_
                      case h8ps => (go_simp; try with_reducible rfl)
                      case b8ps => (simp only [Act.put, List.setIfInBounds_toArray, List.set_cons_zero, List.set_cons_succ]; rfl)
                      refine wpAnyH_op (i := 9) (some 166) (v := ?v9ps) (a' := ?a9ps) rfl rfl (by kernel_rfl) (by kernel_rfl) (by kernel_rfl) (fun _ _ _ h => h) rfl (fun wz hwz => ?h9ps) ?b9ps hS ?_
                      case h9ps => (go_simp; try with_reducible rfl)
                      case b9ps => (simp only [Act.put, List.setIfInBounds_toArray, List.set_cons_zero, List.set_cons_succ]; rfl)
                      refine wpAnyH_done (by kernel_rfl) ?_ _
                      dsimp only [OnlyNormal]
                      go_wp2
                      go_roundw
                      case rel => exact ⟨j + 1, by omega, by go_num, HM5.out.new hS⟩
                      case measure => simp [intOf]; omega
                    · obtain rfl : j = 12 := by omega
                      go_wp2_with fail
                      refine (awake2_any _).mono ?_
                      rintro e w5 ⟨rfl, hf5⟩
                      have hfin := hM.out.frame.trans hf5
                      clear hf5
                      go_wp2
                      go_ret
                      exact ⟨rfl, hfin⟩
      · go_wp2_with fail
        refine (Copy_ok HD.out hwl).mono ?_
        rintro e w2 ⟨c, rfl, hc, hDc, hf2⟩
        have HDc := Lib.hid hDc
        have HF2 := Lib.hid hf2
        have HDd := Lib.hid (HD.out.new hf2)
        clear hDc hf2 hnk
        go_wp2_with fail
        refine (Writes_any HDc.out).mono ?_
        rintro e w3 ⟨rfl, rfl⟩
        go_wp2_with fail
        refine (Writes_any HDd.out).mono ?_
        rintro e w3 ⟨rfl, rfl⟩
        go_wp2_with fail
        refine (Waiting_any HDc.out).mono ?_
        rintro e w3 ⟨rfl, rfl⟩
        go_wp2_with fail
        refine (Waiting_any HDd.out).mono ?_
        rintro e w3 ⟨rfl, rfl⟩
        go_wp2_with fail
        refine (Sectors_any HDc.out).mono ?_
        rintro e w3 ⟨rfl, rfl⟩
        rw [Hd3.out]
        go_wp2
        have e0 : strs (fill S.now 0) = strs (List.replicate 12 []) := by unfold fill; rw [Hd3.out]; rfl
        have HM2 : Hid (TwoMem w (w2.alloc (.cells (strs (List.replicate 12 [])) 43)) p c w2.heap.size (fill S.now 0) S S) :=
          OneMem.copied HD.out HR.out HF.out Hd1.out Hd2.out Hd3.out HF2.out HDc.out (by rw [e0]; exact Blk.new w2 _ _) ((Fr.refl _ w2).alloc _)
        clear e0 HD HR HF Hd1 Hd2 Hd3 HF2 HDc HDd
        obtain ⟨ab, hab⟩ : ∃ ab, w2.heap.size = ab := ⟨_, rfl⟩
        rw [hab] at HM2 ⊢
        clear hab
        go_loopw [14, 15, 16, 17, 18] (fun i _ _ _ _ wr => ∃ j : Nat, j ≤ 12 ∧ i = .int .i64 j ∧ Hid (TwoMem w wr p c ab (fill S.now j) S S)) (fun i _ _ _ _ _ => 12 - (intOf i).toNat)
        case atStart => exact ⟨0, by omega, rfl, HM2⟩
        case round =>
          clear HM2
          obtain ⟨j, hj, rfl, hM⟩ := hrel
          have hdl := hM.out.dlen
          by_cases hlj : j < 12
          · have hjL : j < S.now.length := by omega
            have HFs := Lib.hid (fill_set hjL)
            have HSn : Hid (S.now[j]? = some S.now[j]) := List.getElem?_eq_getElem hjL
            obtain ⟨s0, hs0⟩ := fill_get hjL
            generalize S.now[j] = s at *
            have HL := Lib.hid (hM.out.len64 HSn.out)
            have Hs0 := Lib.hid hs0
            clear hs0
            go_wp2_with fail
            refine (hM.out.readD _ s (by omega) (by rw [Int.toNat_natCast]; exact HSn.out)).mono ?_
            rintro e w5 ⟨rfl, hr5, hM5, hf5⟩
            have HR5 := Lib.hid hr5
            have HM5 := Lib.hid hM5
            clear hr5 hM5 hf5
            go_wp2_with fail
            refine (HM5.out.readC _ s (by omega) (by rw [Int.toNat_natCast]; exact HSn.out)).mono ?_
            rintro e w6 ⟨rfl, hr6, hM6, hf6⟩
            have HM6 := Lib.hid hM6
            have q5 := Row64.conv (HR5.out.fr hf6 (fun h => h)) HL.out
            have q6 := Row64.conv hr6 HL.out
            clear hr6 hM6 hf6
            obtain ⟨ca, fa⟩ := HM6.out.cell Hs0.out
            have HM7 := Lib.hid (HM6.out.note j s)
            rw [HFs.out] at HM7
            go_wp2
            go_roundw
            case rel => exact ⟨j + 1, by omega, by go_num, HM7⟩
            case measure => simp [intOf]; omega
          · obtain rfl : j = 12 := by omega
            have hM2 := hM.out
            rw [← hdl, fill_all] at hM2
            have HM3 := Lib.hid hM2
            have HWl : Hid (S.waits.length ≤ 30) := by show _ ≤ _; omega
            clear hM2 hM hdl
            go_wp2
            go_loopw [19] (fun i wr => ∃ (q : Nat) (Sc : DS), q ≤ m.length ∧ q ≤ 20 ∧ i = .int .i64 q ∧ Hid (TwoMem w wr p c ab S.now S Sc) ∧ Sc.waits.length ≤ 30 + q) (fun i _ => 20 - (intOf i).toNat)
            case atStart => exact ⟨0, _, by omega, by omega, rfl, HM3, by have := HWl.out; omega⟩
            case round =>
              clear HM3
              obtain ⟨q, Sc, hq, hq20, rfl, hM, hwq⟩ := hrel
              by_cases hlq : q < m.length ∧ q < 20
              · obtain ⟨hlt1, hlt2⟩ := hlq
                obtain ⟨kb, ko, hA, hcl⟩ := HI2.out.2 (by omega)
                subst hA
                have hck : w.cell? ⟨kb, ko + q, none⟩ = some (.int .i64 m[q]) := hcl q _ (List.getElem?_eq_getElem hlt1)
                have HCK : Hid (∀ wz, Fr Nob w wz → wz.cell? ⟨kb, ko + q, none⟩ = some (.int .i64 m[q])) := fun wz hz => (hz.cell (cell_lt hck) (fun h => h)).trans hck
                clear hcl hck
                generalize m[q] = x at *
                obtain ⟨y, hy, hy0, hy1⟩ : ∃ y, bits .and .i64 x 255 = y ∧ 0 ≤ y ∧ y < 256 := ⟨x % 256, i64_and255 x, by omega, by omega⟩
                obtain ⟨z, hz, hz0, hz1⟩ : ∃ z, y.tmod 12 = z ∧ 0 ≤ z ∧ z < 12 := ⟨y % 12, Int.tmod_eq_emod_of_nonneg hy0, by omega, by omega⟩
                have hwl : Sc.waits.length < 4000000000 := by omega
                go_wp2
                refine wp_region_quietly (fun W => Fr Nob w W) (by kernel_rfl) ?_
                have hS : Fr Nob w wr.drew := hM.out.frame.drew
                refine wpAnyH_op (i := 0) (some 132) (v := ?v0q) (a' := ?a0q) rfl rfl (by kernel_rfl) (by kernel_rfl) (by kernel_rfl) (fun _ _ _ h => h) rfl (fun wz hwz => ?h0q) ?b0q hS ?_
                case h0q => (go_simp; try with_reducible rfl)
                case b0q => (simp only [Act.put, List.setIfInBounds_toArray, List.set_cons_zero, List.set_cons_succ]; rfl)
                refine wpAnyH_op (i := 1) (some 133) (v := ?v1q) (a' := ?a1q) rfl rfl (by kernel_rfl) (by kernel_rfl) (by kernel_rfl) (fun _ _ _ h => h) rfl (fun wz hwz => ?h1q) ?b1q hS ?_
                case h1q => (go_simp; try with_reducible rfl)
                case b1q => (simp only [Act.put, List.setIfInBounds_toArray, List.set_cons_zero, List.set_cons_succ]; rfl)
                refine wpAnyH_op (i := 2) (some 134) (v := ?v2q) (a' := ?a2q) rfl rfl (by kernel_rfl) (by kernel_rfl) (by kernel_rfl) (fun _ _ _ h => h) rfl (fun wz hwz => ?h2q) ?b2q hS ?_
                case h2q => (go_simp; try with_reducible rfl)
                case b2q => (simp only [Act.put, List.setIfInBounds_toArray, List.set_cons_zero, List.set_cons_succ]; rfl)
                refine wpAnyH_op (i := 3) (some 135) (v := ?v3q) (a' := ?a3q) rfl rfl (by kernel_rfl) (by kernel_rfl) (by kernel_rfl) (fun _ _ _ h => h) rfl (fun wz hwz => ?h3q) ?b3q hS ?_
                case h3q => (go_simp; try with_reducible rfl)
                case b3q => (simp only [Act.put, List.setIfInBounds_toArray, List.set_cons_zero, List.set_cons_succ]; rfl)
                refine wpAnyH_op (i := 4) (some 136) (v := ?v4q) (a' := ?a4q) rfl rfl (by kernel_rfl) (by kernel_rfl) (by kernel_rfl) (fun _ _ _ h => h) rfl (fun wz hwz => ?h4q) ?b4q hS ?_
                case h4q => (have ck := HCK.out wz hwz; go_simp; try with_reducible rfl)
                case b4q => (simp only [Act.put, List.setIfInBounds_toArray, List.set_cons_zero, List.set_cons_succ]; rfl)
                refine wpAnyH_op (i := 5) (some 137) (v := ?v5q) (a' := ?a5q) rfl rfl (by kernel_rfl) (by kernel_rfl) (by kernel_rfl) (fun _ _ _ h => h) rfl (fun wz hwz => ?h5q) ?b5q hS ?_
                case h5q => (go_simp; try with_reducible rfl)
                case b5q => (simp only [Act.put, List.setIfInBounds_toArray, List.set_cons_zero, List.set_cons_succ]; rfl)
                refine wpAnyH_op (i := 6) (some 138) (v := (.int .i64 z)) (a' := ?a6q) rfl rfl (by kernel_rfl) (by kernel_rfl) (by kernel_rfl) (fun _ _ _ h => h) rfl (fun wz hwz => ?h6q) ?b6q hS ?_
                case h6q => (go_simp; try with_reducible rfl)
                case b6q => (simp only [Act.put, List.setIfInBounds_toArray, List.set_cons_zero, List.set_cons_succ]; rfl)
                refine wpAnyH_op (i := 7) (some 139) (v := ?v7q) (a' := ?a7q) rfl rfl (by kernel_rfl) (by kernel_rfl) (by kernel_rfl) (fun _ _ _ h => h) rfl (fun wz hwz => ?h7q) ?b7q hS ?_
                case h7q => (go_simp; try with_reducible rfl)
                case b7q => (simp only [Act.put, List.setIfInBounds_toArray, List.set_cons_zero, List.set_cons_succ]; rfl)
                refine wpAnyH_op (i := 8) (some 140) (v := (.int .i64 (500 + (q : Int)))) (a' := ?a8q) rfl rfl (by kernel_rfl) (by kernel_rfl) (by kernel_rfl) (fun _ _ _ h => h) rfl (fun wz hwz => ?h8q) ?b8q hS ?_
                case h8q => (have e8 := wrap_fit (x := 500 + (q : Int)) (by omega) (by omega); go_simp; try with_reducible rfl)
                case b8q => (simp only [Act.put, List.setIfInBounds_toArray, List.set_cons_zero, List.set_cons_succ]; rfl)
                refine wpAnyH_call (i := 9) rfl (by kernel_rfl) rfl ?run9q (Sector_ok (500 + q) _ (by omega) (by omega)) ?_
                case run9q => go_simp
                rintro e w3 ⟨rfl, hr3, hf3⟩
                have HR3 := Lib.hid hr3
                have HM3 := Lib.hid ((hM.out.new (Fr.refl _ _).drew).new hf3)
                have hS3 : Fr Nob w w3 := HM3.out.frame
                clear hr3 hf3
                refine ⟨_, rfl, hS3, ?_⟩
                refine wpAnyH_at (some 141) (a' := ?a9q) rfl ?b9q ?_
                case b9q => (simp only [Act.put, List.setIfInBounds_toArray, List.set_cons_zero, List.set_cons_succ]; rfl)
                refine wpAnyH_call (i := 10) rfl (by kernel_rfl) rfl ?run10q (HM3.out.writeC _ _ _ (by omega) (by omega) (sect_length _) HR3.out hwl) ?_
                case run10q => go_simp
                rintro e w4 ⟨rfl, hM4⟩
                have HM4 := Lib.hid hM4
                have hS4 : Fr Nob w w4 := hM4.frame
                have hW4 : (Sc.wr0 z.toNat (sect (500 + q))).waits.length ≤ 30 + (q + 1) := by simp [DS.wr0]; omega
                clear hM4
                refine ⟨_, rfl, hS4, ?_⟩
                refine wpAnyH_at (some 142) (a' := ?a10q) rfl ?b10q ?_
                case b10q => (simp only [Act.put, List.setIfInBounds_toArray, List.set_cons_zero, List.set_cons_succ]; rfl)
                refine wpAnyH_op (i := 11) (some 143) (v := ?v11q) (a' := ?a11q) rfl rfl (by kernel_rfl) (by kernel_rfl) (by kernel_rfl) (fun _ _ _ h => h) rfl (fun wz hwz => ?h11q) ?b11q hS4 ?_
                case h11q => (go_simp; try with_reducible rfl)
                case b11q => (simp only [Act.put, List.setIfInBounds_toArray, List.set_cons_zero, List.set_cons_succ]; rfl)
                refine wpAnyH_done (by kernel_rfl) ?_ _
                dsimp only [OnlyNormal]
                go_wp2
                go_roundw
                case rel => exact ⟨q + 1, _, by omega, by omega, by go_num, HM4, hW4⟩
                case measure => simp [intOf]; omega
              · have hnq : ¬ ((q : Int) < (m.length : Int)) ∨ ((q : Int) < (m.length : Int) ∧ ¬ ((q : Int) < 20)) := by omega
                have hwl : Sc.waits.length < 4000000000 := by omega
                clear hlq
                rcases hnq with hnq | hnq
                · go_wp2_with fail
                  refine (hM.out.crashC _ _ _ HI3.out hr3 hwl).mono ?_
                  rintro e w4 ⟨rfl, hM4⟩
                  have HM4 := Lib.hid hM4
                  clear hM4 hM hnq
                  go_wp2
                  go_loopw [20, 21, 22] (fun i _ _ wr => ∃ j : Nat, j ≤ 12 ∧ i = .int .i64 j ∧ Hid (TwoMem w wr p c ab S.now S (Sc.crash n))) (fun i _ _ _ => 12 - (intOf i).toNat)
                  case atStart => exact ⟨0, by omega, rfl, HM4⟩
                  case round =>
                    clear HM4
                    obtain ⟨j, hj, rfl, hM⟩ := hrel
                    have hdl := hM.out.dlen
                    by_cases hlj : j < 12
                    · have hjL : j < S.now.length := by omega
                      have HSn : Hid (S.now[j]? = some S.now[j]) := List.getElem?_eq_getElem hjL
                      generalize S.now[j] = s at *
                      have HL := Lib.hid (hM.out.len64 HSn.out)
                      go_wp2_with fail
                      refine (hM.out.readD _ s (by omega) (by rw [Int.toNat_natCast]; exact HSn.out)).mono ?_
                      rintro e w5 ⟨rfl, hr5, hM5, hf5⟩
                      have HR5 := Lib.hid hr5
                      have HM5 := Lib.hid hM5
                      clear hr5 hM5 hf5
                      go_wp2
                      refine wp_region_quietly (fun W => Fr Nob w5 W) (by kernel_rfl) ?_
                      have hS : Fr Nob w5 w5.drew := (Fr.refl _ _).drew
                      refine wpAnyH_op (i := 0) (some 157) (v := ?v0qr) (a' := ?a0qr) rfl rfl (by kernel_rfl) (by kernel_rfl) (by kernel_rfl) (fun _ _ _ h => h) rfl (fun wz hwz => ?h0qr) ?b0qr hS ?_
                      case h0qr => (go_simp; try with_reducible rfl)
                      case b0qr => (simp only [Act.put, List.setIfInBounds_toArray, List.set_cons_zero, List.set_cons_succ]; rfl)
                      refine wpAnyH_op (i := 1) (some 158) (v := ?v1qr) (a' := ?a1qr) rfl rfl (by kernel_rfl) (by kernel_rfl) (by kernel_rfl) (fun _ _ _ h => h) rfl (fun wz hwz => ?h1qr) ?b1qr hS ?_
                      case h1qr => (go_simp; try with_reducible rfl)
                      case b1qr => (simp only [Act.put, List.setIfInBounds_toArray, List.set_cons_zero, List.set_cons_succ]; rfl)
                      refine wpAnyH_op (i := 2) (some 159) (v := ?v2qr) (a' := ?a2qr) rfl rfl (by kernel_rfl) (by kernel_rfl) (by kernel_rfl) (fun _ _ _ h => h) rfl (fun wz hwz => ?h2qr) ?b2qr hS ?_
                      case h2qr => (go_simp; try with_reducible rfl)
                      case b2qr => (simp only [Act.put, List.setIfInBounds_toArray, List.set_cons_zero, List.set_cons_succ]; rfl)
                      refine wpAnyH_op (i := 3) (some 160) (v := ?v3qr) (a' := ?a3qr) rfl rfl (by kernel_rfl) (by kernel_rfl) (by kernel_rfl) (fun _ _ _ h => h) rfl (fun wz hwz => ?h3qr) ?b3qr hS ?_
                      case h3qr => (go_simp; try with_reducible rfl)
                      case b3qr => (simp only [Act.put, List.setIfInBounds_toArray, List.set_cons_zero, List.set_cons_succ]; rfl)
                      refine wpAnyH_op (i := 4) (some 161) (v := ?v4qr) (a' := ?a4qr) rfl rfl (by kernel_rfl) (by kernel_rfl) (by kernel_rfl) (fun _ _ _ h => h) rfl (fun wz hwz => ?h4qr) ?b4qr hS ?_
                      case h4qr => (have q5 := Row64.conv (HR5.out.fr hwz (fun h => h)) HL.out; go_simp; try with_reducible rfl)
                      case b4qr => (simp only [Act.put, List.setIfInBounds_toArray, List.set_cons_zero, List.set_cons_succ]; rfl)
                      refine wpAnyH_op (i := 5) (some 162) (v := ?v5qr) (a' := ?a5qr) rfl rfl (by kernel_rfl) (by kernel_rfl) (by kernel_rfl) (fun _ _ _ h => h) rfl (fun wz hwz => ?h5qr) ?b5qr hS ?_
                      case h5qr => (go_simp; try with_reducible rfl)
                      case b5qr => (simp only [Act.put, List.setIfInBounds_toArray, List.set_cons_zero, List.set_cons_succ]; rfl)
                      refine wpAnyH_op (i := 6) (some 163) (v := ?v6qr) (a' := ?a6qr) rfl rfl (by kernel_rfl) (by kernel_rfl) (by kernel_rfl) (fun _ _ _ h => h) rfl (fun wz hwz => ?h6qr) ?b6qr hS ?_
                      case h6qr => (go_simp; try with_reducible rfl)
                      case b6qr => (simp only [Act.put, List.setIfInBounds_toArray, List.set_cons_zero, List.set_cons_succ]; rfl)
                      refine wpAnyH_op (i := 7) (some 164) (v := ?v7qr) (a' := ?a7qr) rfl rfl (by kernel_rfl) (by kernel_rfl) (by kernel_rfl) (fun _ _ _ h => h) rfl (fun wz hwz => ?h7qr) ?b7qr hS ?_
                      case h7qr => (have ca := ((HM5.out.new hwz).cell HSn.out).1; go_simp; try with_reducible rfl)
                      case b7qr => (simp only [Act.put, List.setIfInBounds_toArray, List.set_cons_zero, List.set_cons_succ]; rfl)
                      refine wpAnyH_op (i := 8) (some 165) (v := ?v8qr) (a' := ?a8qr) rfl rfl (by kernel_rfl) (by kernel_rfl) (by kernel_rfl) (fun _ _ _ h => h) rfl (fun wz hwz => ?h8qr) ?b8qr hS ?_
                      case h8qr => (go_simp; try with_reducible rfl)
                      case b8qr => (simp only [Act.put, List.setIfInBounds_toArray, List.set_cons_zero, List.set_cons_succ]; rfl)
                      refine wpAnyH_op (i := 9) (some 166) (v := ?v9qr) (a' := ?a9qr) rfl rfl (by kernel_rfl) (by kernel_rfl) (by kernel_rfl) (fun _ _ _ h => h) rfl (fun wz hwz => ?h9qr) ?b9qr hS ?_
                      case h9qr => (go_simp; try with_reducible rfl)
                      case b9qr => (simp only [Act.put, List.setIfInBounds_toArray, List.set_cons_zero, List.set_cons_succ]; rfl)
                      refine wpAnyH_done (by kernel_rfl) ?_ _
                      dsimp only [OnlyNormal]
                      go_wp2
                      go_roundw
                      case rel => exact ⟨j + 1, by omega, by go_num, HM5.out.new hS⟩
                      case measure => simp [intOf]; omega
                    · obtain rfl : j = 12 := by omega
                      go_wp2_with fail
                      refine (awake2_any _).mono ?_
                      rintro e w5 ⟨rfl, hf5⟩
                      have hfin := hM.out.frame.trans hf5
                      clear hf5
                      go_wp2
                      go_ret
                      exact ⟨rfl, hfin⟩
                · go_wp2_with fail
                  refine (hM.out.crashC _ _ _ HI3.out hr3 hwl).mono ?_
                  rintro e w4 ⟨rfl, hM4⟩
                  have HM4 := Lib.hid hM4
                  clear hM4 hM hnq
                  go_wp2
                  go_loopw [20, 21, 22] (fun i _ _ wr => ∃ j : Nat, j ≤ 12 ∧ i = .int .i64 j ∧ Hid (TwoMem w wr p c ab S.now S (Sc.crash n))) (fun i _ _ _ => 12 - (intOf i).toNat)
                  case atStart => exact ⟨0, by omega, rfl, HM4⟩
                  case round =>
                    clear HM4
                    obtain ⟨j, hj, rfl, hM⟩ := hrel
                    have hdl := hM.out.dlen
                    by_cases hlj : j < 12
                    · have hjL : j < S.now.length := by omega
                      have HSn : Hid (S.now[j]? = some S.now[j]) := List.getElem?_eq_getElem hjL
                      generalize S.now[j] = s at *
                      have HL := Lib.hid (hM.out.len64 HSn.out)
                      go_wp2_with fail
                      refine (hM.out.readD _ s (by omega) (by rw [Int.toNat_natCast]; exact HSn.out)).mono ?_
                      rintro e w5 ⟨rfl, hr5, hM5, hf5⟩
                      have HR5 := Lib.hid hr5
                      have HM5 := Lib.hid hM5
                      clear hr5 hM5 hf5
                      go_wp2
                      refine wp_region_quietly (fun W => Fr Nob w5 W) (by kernel_rfl) ?_
                      have hS : Fr Nob w5 w5.drew := (Fr.refl _ _).drew
                      refine wpAnyH_op (i := 0) (some 157) (v := ?v0qs) (a' := ?a0qs) rfl rfl (by kernel_rfl) (by kernel_rfl) (by kernel_rfl) (fun _ _ _ h => h) rfl (fun wz hwz => ?h0qs) ?b0qs hS ?_
                      case h0qs => (go_simp; try with_reducible rfl)
                      case b0qs => (simp only [Act.put, List.setIfInBounds_toArray, List.set_cons_zero, List.set_cons_succ]; rfl)
                      refine wpAnyH_op (i := 1) (some 158) (v := ?v1qs) (a' := ?a1qs) rfl rfl (by kernel_rfl) (by kernel_rfl) (by kernel_rfl) (fun _ _ _ h => h) rfl (fun wz hwz => ?h1qs) ?b1qs hS ?_
                      case h1qs => (go_simp; try with_reducible rfl)
                      case b1qs => (simp only [Act.put, List.setIfInBounds_toArray, List.set_cons_zero, List.set_cons_succ]; rfl)
                      refine wpAnyH_op (i := 2) (some 159) (v := ?v2qs) (a' := ?a2qs) rfl rfl (by kernel_rfl) (by kernel_rfl) (by kernel_rfl) (fun _ _ _ h => h) rfl (fun wz hwz => ?h2qs) ?b2qs hS ?_
                      case h2qs => (go_simp; try with_reducible rfl)
                      case b2qs => (simp only [Act.put, List.setIfInBounds_toArray, List.set_cons_zero, List.set_cons_succ]; rfl)
                      refine wpAnyH_op (i := 3) (some 160) (v := ?v3qs) (a' := ?a3qs) rfl rfl (by kernel_rfl) (by kernel_rfl) (by kernel_rfl) (fun _ _ _ h => h) rfl (fun wz hwz => ?h3qs) ?b3qs hS ?_
                      case h3qs => (go_simp; try with_reducible rfl)
                      case b3qs => (simp only [Act.put, List.setIfInBounds_toArray, List.set_cons_zero, List.set_cons_succ]; rfl)
                      refine wpAnyH_op (i := 4) (some 161) (v := ?v4qs) (a' := ?a4qs) rfl rfl (by kernel_rfl) (by kernel_rfl) (by kernel_rfl) (fun _ _ _ h => h) rfl (fun wz hwz => ?h4qs) ?b4qs hS ?_
                      case h4qs => (have q5 := Row64.conv (HR5.out.fr hwz (fun h => h)) HL.out; go_simp; try with_reducible rfl)
                      case b4qs => (simp only [Act.put, List.setIfInBounds_toArray, List.set_cons_zero, List.set_cons_succ]; rfl)
                      refine wpAnyH_op (i := 5) (some 162) (v := ?v5qs) (a' := ?a5qs) rfl rfl (by kernel_rfl) (by kernel_rfl) (by kernel_rfl) (fun _ _ _ h => h) rfl (fun wz hwz => ?h5qs) ?b5qs hS ?_
                      case h5qs => (go_simp; try with_reducible rfl)
                      case b5qs => (simp only [Act.put, List.setIfInBounds_toArray, List.set_cons_zero, List.set_cons_succ]; rfl)
                      refine wpAnyH_op (i := 6) (some 163) (v := ?v6qs) (a' := ?a6qs) rfl rfl (by kernel_rfl) (by kernel_rfl) (by kernel_rfl) (fun _ _ _ h => h) rfl (fun wz hwz => ?h6qs) ?b6qs hS ?_
                      case h6qs => (go_simp; try with_reducible rfl)
                      case b6qs => (simp only [Act.put, List.setIfInBounds_toArray, List.set_cons_zero, List.set_cons_succ]; rfl)
                      refine wpAnyH_op (i := 7) (some 164) (v := ?v7qs) (a' := ?a7qs) rfl rfl (by kernel_rfl) (by kernel_rfl) (by kernel_rfl) (fun _ _ _ h => h) rfl (fun wz hwz => ?h7qs) ?b7qs hS ?_
                      case h7qs => (have ca := ((HM5.out.new hwz).cell HSn.out).1; go_simp; try with_reducible rfl)
                      case b7qs => (simp only [Act.put, List.setIfInBounds_toArray, List.set_cons_zero, List.set_cons_succ]; rfl)
                      refine wpAnyH_op (i := 8) (some 165) (v := ?v8qs) (a' := ?a8qs) rfl rfl (by kernel_rfl) (by kernel_rfl) (by kernel_rfl) (fun _ _ _ h => h) rfl (fun wz hwz => ?h8qs) ?b8qs hS ?_
                      case h8qs => (go_simp; try with_reducible rfl)
                      case b8qs => (simp only [Act.put, List.setIfInBounds_toArray, List.set_cons_zero, List.set_cons_succ]; rfl)
                      refine wpAnyH_op (i := 9) (some 166) (v := ?v9qs) (a' := ?a9qs) rfl rfl (by kernel_rfl) (by kernel_rfl) (by kernel_rfl) (fun _ _ _ h => h) rfl (fun wz hwz => ?h9qs) ?b9qs hS ?_
                      case h9qs => (go_simp; try with_reducible rfl)
                      case b9qs => (simp only [Act.put, List.setIfInBounds_toArray, List.set_cons_zero, List.set_cons_succ]; rfl)
                      refine wpAnyH_done (by kernel_rfl) ?_ _
                      dsimp only [OnlyNormal]
                      go_wp2
                      go_roundw
                      case rel => exact ⟨j + 1, by omega, by go_num, HM5.out.new hS⟩
                      case measure => simp [intOf]; omega
                    · obtain rfl : j = 12 := by omega
                      go_wp2_with fail
                      refine (awake2_any _).mono ?_
                      rintro e w5 ⟨rfl, hf5⟩
                      have hfin := hM.out.frame.trans hf5
                      clear hf5
                      go_wp2
                      go_ret
                      exact ⟨rfl, hfin⟩
end Go.Proofs.Ytieiopeblleheaa
