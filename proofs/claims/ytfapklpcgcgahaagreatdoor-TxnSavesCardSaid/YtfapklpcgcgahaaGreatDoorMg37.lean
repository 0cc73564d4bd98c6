/-
  TxnSaves, in one text.
-/
import Derived.Test.YtfapklpcgcgahaaGreatDoorMg36
/-
  TxnSaves returns true.
-/
namespace Go.Proofs.YtfapklpcgcgahaaGreatDoor
set_option linter.unusedSimpArgs false
set_option linter.unusedVariables false
open Go.RowKit Go.Maps

def svPg : Nat → Pgs
  | 0 => CZ
  | i + 1 => layP (svPg i) (i % 6) (11 * i) (byB (i + 1) 20)
/-- The saves, so far. -/
def svL (n : Nat) : List (Nat × Nat × Pgs) := (List.range n).map fun k => (k + 1, k + 1, svPg (k + 1))
theorem svL_succ (n : Nat) : svL (n + 1) = svL n ++ [(n + 1, n + 1, svPg (n + 1))] := by unfold svL; rw [List.range_succ, List.map_append]; rfl
theorem svL_get (n i : Nat) (h : i < n) : (svL n)[i]? = some (i + 1, i + 1, svPg (i + 1)) := by
  unfold svL
  rw [List.getElem?_map, List.getElem?_range h]; rfl
theorem svL_take (n k : Nat) (h : k ≤ n) : (svL n).take k = svL k := by
  unfold svL
  rw [← List.map_take, List.take_range, Nat.min_eq_left h]
theorem info_strs : (Tryz.prog.info? 34).map (fun i => (i.zero, i.size, i.bytes)) = some (some (.slice none 0 0), 1, 24) := by kernel_rfl
set_option maxHeartbeats 12800000 in
set_option maxRecDepth 100000 in
theorem TxnSaves_row (nn : Int) (A : Option Addr) (ca : Nat) (xs : List Int) (w : World) (hx : IntsIn w A xs) :
    Calls Tryz.prog 6 #[.int .i64 nn, .slice A xs.length ca] w fun e w' => e = .returned (.bool true) ∧ Fr Nob w w' := by
  obtain ⟨i0, hi0, iz0, iz1, iz2⟩ := info_parts' info_str6
  obtain ⟨j0, hj0, jz0, jz1, jz2⟩ := info_parts' info_strs
  obtain ⟨n1, hn1, hn7⟩ := and7 nn
  have qL : ∀ (w : World) (A : Option Addr) (n c : Nat), (Builtin.len_ #[50] 3 #[Value.slice A n c]).run Tryz.prog w = .ok (.int .i64 n) w := fun w A n c => by go_simp
  obtain ⟨n, hn⟩ : ∃ n, n1 + 1 = n := ⟨_, rfl⟩
  have hni : (n1 : Int) + 1 = (n : Int) := by omega
  have hnw : IntKind.i64.wrap ((n1 : Int) + 1) = (n : Int) := by rw [IntKind.wrap_i64]; omega
  have hn8 : n ≤ 8 := by omega
  have hnp : 1 ≤ n := by omega
  have HX := Lib.hid hx
  have HMd : Hid (Calls Tryz.prog 14 #[.int .i64 2048, .int .i64 2] w fun e w' => ∃ g s d p l f RS U nv lv, e = .returned (.pointer (some ⟨g, 0, none⟩)) ∧ TW w w' RS (fun _ => False) U g s 0 0 (TS.fresh d p l f 6 2048 2) (2048 : Nat) 2 nv lv CZ) := Made6_any 2048 2 w (by omega) (by omega) (by omega) (by omega)
  have HAw : Hid (∀ W, Calls Tryz.prog 13 #[] W fun e w' => e = .returned (.bool true) ∧ Fr Nob W w') := Awake6_any
  have HBy : Hid (∀ k W, k ≤ 100 → Calls Tryz.prog 16 #[.int .i64 ((k : Nat) : Int), .int .i64 20] W fun e w' => e = .returned (.slice (some ⟨W.heap.size, 0, none⟩) 20 20) ∧ Blk w' W.heap.size 5 (bts (byB k 20)).toArray ∧ Fr Nob W w') := fun k W hk => Bytes6_any k 20 W (by omega) (by omega)
  clear hx hn
  go_enter Tryz.func6, Tryz.ntmps6
  go_wp2_with fail
  refine HMd.out.mono ?_
  rintro e w1 ⟨g, s, d, p, l, f, RS1, U1, nv, lv, rfl, hw1⟩
  have hti := TI.fresh d p l f 2048 2
  have HBg := Lib.hid (Begin_tb hw1.tx hti (by omega) (by omega))
  have a1 := hw1.cs
  have z1 := hw1.lt
  obtain ⟨gn, cn, rfl, hcn, hgn⟩ := hw1.form
  have HW1 := Lib.hid hw1
  clear hti hw1 HMd
  go_wp2_with fail
  refine HBg.out.mono ?_
  rintro e w2 ⟨rfl, RS2, T2, h2, hb2, hs2⟩
  have hw2 := HW1.out.step h2 hs2 hb2.d
  have HW2 := Lib.hid hw2
  have HB2 := Lib.hid hb2
  clear h2 hb2 hs2 hw2 HBg HW1 a1 z1 hgn
  go_wp2_with fail
  go_loopw [6, 7] (fun vw i wr => ∃ k : Nat, k ≤ n ∧ i = .int .i64 k ∧ Hid (∃ RS RO U T, TW w wr RS RO U g s (3 * k) (2 * k) T (2048 : Nat) 2 (.slice (some ⟨gn, 0, none⟩) 6 cn) lv (svPg k) ∧ TB T d 2048 (svPg k) CZ (svL k) k k 0 (97903 - 116 * (k : Int)) ∧ WasAt wr w.heap.size (AllN RS RO U (.slice (some ⟨gn, 0, none⟩) 6 cn)) vw k (fun j => svPg (j + 1)))) (fun _ i _ => n - (intOf i).toNat)
  case atStart => exact ⟨0, by omega, rfl, RS2, _, U1, T2, HW2.out, HB2.out, ⟨⟨[], World.ownsRow_nil _ _ _ _, fun k hk => absurd hk (by omega)⟩, fun b hb => by simp [Value.ownBlock] at hb⟩⟩
  case round =>
    clear HW2 HB2
    obtain ⟨k, hk, rfl, hX⟩ := hrel
    by_cases hlt : k < n
    · obtain ⟨RS3, RO3, U3, T3, hw3, hb3, hwas⟩ := hX.out
      have HW3 := Lib.hid hw3
      have HB3 := Lib.hid hb3
      have HWas := Lib.hid hwas
      clear hX hw3 hb3 hwas
      have e1 : (k : Int) + 1 = ((k + 1 : Nat) : Int) := by omega
      obtain ⟨k1, hk1⟩ : ∃ x, k + 1 = x := ⟨_, rfl⟩
      rw [hk1] at e1
      have ew : IntKind.i64.wrap ((k : Int) + 1) = (k1 : Int) := by rw [IntKind.wrap_i64]; omega
      have HK1 := Lib.hid hk1
      have hby := HBy.out k1 wr (by omega)
      have HBy1 := Lib.hid hby
      clear hby hk1
      go_wp2_with fail
      refine HBy1.out.mono ?_
      rintro e w4 ⟨rfl, hbk, hf4⟩
      have hw4 := HW3.out.new hf4
      have hbi := bytesIn_of hbk
      have hbl : (byB k1 20).length = 20 := byB_length k1 20
      obtain ⟨k6, hk6⟩ : ∃ x : Nat, k % 6 = x := ⟨_, rfl⟩
      have hk6b : k6 < 6 := by omega
      have m1 : (k : Int).tmod 6 = (k6 : Int) := by rw [Int.tmod_eq_emod_of_nonneg (by omega)]; omega
      have m0 : IntKind.i64.wrap ((k : Int).tmod 6) = (k6 : Int) := by rw [m1, IntKind.wrap_i64]; omega
      have m2 : (k : Int) % 6 = (k6 : Int) := by omega
      obtain ⟨at_, hat⟩ : ∃ x : Nat, 11 * k = x := ⟨_, rfl⟩
      have hatb : at_ ≤ 77 := by omega
      have t0 : IntKind.i64.wrap (11 * (k : Int)) = (at_ : Int) := by rw [IntKind.wrap_i64]; omega
      have t1 : 11 * (k : Int) = (at_ : Int) := by omega
      have hnot : ¬ RS3 wr.heap.size ∧ ¬ RO3 wr.heap.size ∧ ¬ U3 wr.heap.size := ⟨fun e => by have := HW3.out.tx.lts _ e; omega, fun e => by have := HW3.out.tx.lto _ e; omega, fun e => by have := HW3.out.tx.ltu _ e; omega⟩
      have hzw : wr.heap.size < w4.heap.size := hbk.lt
      have hwr := Write_tb hw4.tx HB3.out k6 at_ wr.heap.size 0 20 (byB k1 20) hbi hzw hnot hk6b (by rw [hbl]; omega) (by omega) (by rw [hbl]; exact Nat.le_refl _) (by omega) (by rw [hbl]; omega) (by omega) (by omega)
      have hlen := HB3.out.len hw4.tx k6 hk6b
      have hpg : layP (svPg k) k6 at_ (byB k1 20) = svPg (k + 1) := by
        show _ = layP (svPg k) (k % 6) (11 * k) (byB (k + 1) 20)
        rw [hk6, hat, HK1.out]
      have HPg := Lib.hid hpg
      rw [hbl] at hwr
      have HWr := Lib.hid hwr
      have HW4 := Lib.hid hw4
      have HBi := Lib.hid hbi
      have HBl := Lib.hid hbl
      have HLen := Lib.hid hlen
      have HF4 := Lib.hid hf4
      have HBk := Lib.hid hbk
      have a4 := hw4.cs
      have z4 := hw4.lt
      have HD3 := Lib.hid HB3.out.d
      clear hk6 hat hbk hf4 hw4 hbi hbl hnot hwr hlen hpg HBy1
      go_wp2_with fail
      refine HWr.out.mono ?_
      rintro e w5 ⟨rfl, RS5, RO5, U5, T5, h5, hb5, hs5⟩
      have hw5 := HW4.out.step h5 hs5 (hb5.d.trans HD3.out.symm)
      have hwas5 := (HWas.out.fr HF4.out (fun _ h => h.elim)).step hs5.fr3 (fun b hb => .inl hb) (hs5.alln (nv := .slice (some ⟨gn, 0, none⟩) 6 cn))
      rw [HPg.out] at hb5
      have HW5 := Lib.hid hw5
      have HB5 := Lib.hid hb5
      have HWas5 := Lib.hid hwas5
      have a5 := hw5.cs
      have z5 := hw5.lt
      have n5 := hw5.cn
      have r5 := Row6.at_ hw5.now k6 hk6b
      have hgn5 : gn < w5.heap.size := own_lt (show w5.ownsRow _ 9 1 (.slice (some ⟨gn, 0, none⟩) 6 cn) 6 _ from hw5.now) (g := gn) rfl
      have hgr5 : w5.frozen? ⟨gn, k6, none⟩ = false := by
        obtain ⟨cur, hcur⟩ := own_blk (show w5.ownsRow _ 9 1 (.slice (some ⟨gn, 0, none⟩) 6 cn) 6 _ from hw5.now) (g := gn) rfl
        exact hcur.frozen k6
      have hbk5 : BytesIn w5 (some ⟨wr.heap.size, 0, none⟩) (byB k1 20) := (HBi.out).fr hs5.fr3 (fun a ha e => by
        injection ha with ha
        subst ha
        have := HW3.out.tx.all3lt e
        have e : wr.heap.size < wr.heap.size := this
        omega)
      have HCv : Hid (∀ W, Fr Nob w5 W → (convert 40 9 (.slice (some ⟨wr.heap.size, 0, none⟩) 20 20)).run Tryz.prog W = .ok (.string (tB (byB k1 20))) W) := fun W hW => by
        have := conv_in (hbk5.new hW) 20
        rw [HBl.out] at this
        exact this
      rw [tS_eq] at r5
      obtain ⟨pc, hpc⟩ : ∃ l, svPg k k6 = l := ⟨_, rfl⟩
      have hpl : pc.length = 480 := by rw [← hpc]; exact HLen.out
      rw [hpc] at r5
      have s1 := tB_take pc at_ (by omega)
      have s2 := tB_drop pc (at_ + 20)
      rw [hpl] at s2
      have s3 := tB_lay pc at_ (byB k1 20)
      rw [HBl.out] at s3
      have s4 := tB_append (pc.take at_) (byB k1 20)
      have z61 := tB_size pc
      rw [hpl] at z61
      have z62 : (tB (pc.take at_)).size ≤ 480 := by rw [tB_size, List.length_take]; omega
      have z63 : (tB (byB k1 20)).size ≤ 480 := by rw [tB_size, HBl.out]; omega
      have z64 : (tB (pc.take at_ ++ byB k1 20)).size ≤ 960 := by rw [tB_size, List.length_append, List.length_take, HBl.out]; omega
      have z65 : (tB (pc.drop (at_ + 20))).size ≤ 480 := by rw [tB_size, List.length_drop]; omega
      rw [s4] at s3
      obtain ⟨B1, hB1⟩ : ∃ x, tB pc = x := ⟨_, rfl⟩
      obtain ⟨B2, hB2⟩ : ∃ x, tB (pc.take at_) = x := ⟨_, rfl⟩
      obtain ⟨B3, hB3⟩ : ∃ x, tB (byB k1 20) = x := ⟨_, rfl⟩
      obtain ⟨B4, hB4⟩ : ∃ x, tB (pc.take at_ ++ byB k1 20) = x := ⟨_, rfl⟩
      obtain ⟨B5, hB5⟩ : ∃ x, tB (pc.drop (at_ + 20)) = x := ⟨_, rfl⟩
      obtain ⟨B6, hB6⟩ : ∃ x, tB (layB pc at_ (byB k1 20)) = x := ⟨_, rfl⟩
      rw [hB1] at r5 s1 s2 z61
      rw [hB2] at s1 s4 z62
      rw [hB3] at s4 z63 HCv
      rw [hB4] at s3 s4 z64
      rw [hB5] at s2 s3 z65
      rw [hB6] at s3
      have S1 := Lib.hid s1
      have S2 := Lib.hid s2
      have S3 := Lib.hid s3
      have S4 := Lib.hid s4
      have Z61 := Lib.hid z61
      have HB6 := Lib.hid hB6
      have HPc := Lib.hid hpc
      obtain ⟨at2, hat2⟩ : ∃ x, at_ + 20 = x := ⟨_, rfl⟩
      have t2 : IntKind.i64.wrap ((at_ : Int) + 20) = (at2 : Int) := by rw [IntKind.wrap_i64]; omega
      rw [hat2] at S2
      have hat2b : at2 ≤ 480 := by omega
      have T0 := Lib.hid t0
      have T2 := Lib.hid t2
      have M0 := Lib.hid m0
      have M1 := Lib.hid m1
      have hcn5 := hcn
      clear h5 hb5 hs5 hw5 hwas5 HWr hbk5 s1 s2 s3 s4 hB1 hB2 hB3 hB4 hB5 hB6 hpc hpl t0 t1 t2 m0 m1 m2 hat2 z61 HWas HW3 HB3 HW4 HBi HF4 HBk a4 z4
      go_wp2_with fail
      have hS : Fr Nob w5 w5.drew := (Fr.refl _ w5).drew
      refine Rg.begin (Fr Nob w5) [34] (by kernel_rfl) ?_
      refine Rg.op 0 (some 48) hS (v := ?v0n) (a' := ?a0n) (hy := fun wz hwz => ?h0n) (ha := ?b0n) (h := ?_)
      case h0n => (go_simp; try with_reducible rfl)
      case b0n => (simp only [Act.put, List.setIfInBounds_toArray, List.set_cons_zero, List.set_cons_succ]; rfl)
      refine Rg.op 1 (some 49) hS (v := ?v1n) (a' := ?a1n) (hy := fun wz hwz => ?h1n) (ha := ?b1n) (h := ?_)
      case h1n => (have hpp := Nat.lt_of_lt_of_le z5 hwz.size; go_simp; try with_reducible rfl)
      case b1n => (simp only [Act.put, List.setIfInBounds_toArray, List.set_cons_zero, List.set_cons_succ]; rfl)
      refine Rg.op 2 (some 50) hS (v := ?v2n) (a' := ?a2n) (hy := fun wz hwz => ?h2n) (ha := ?b2n) (h := ?_)
      case h2n => (have hpp := Nat.lt_of_lt_of_le z5 hwz.size; go_simp; try with_reducible rfl)
      case b2n => (simp only [Act.put, List.setIfInBounds_toArray, List.set_cons_zero, List.set_cons_succ]; rfl)
      refine Rg.op 3 (some 51) hS (v := (.slice (some ⟨gn, 0, none⟩) 6 cn)) (a' := ?a3n) (hy := fun wz hwz => ?h3n) (ha := ?b3n) (h := ?_)
      case h3n => (have cx := (hwz.cell (p := ⟨g, 4, none⟩) z5 (fun h => h)).trans n5; have hpp := Nat.lt_of_lt_of_le z5 hwz.size; go_simp; try with_reducible rfl)
      case b3n => (simp only [Act.put, List.setIfInBounds_toArray, List.set_cons_zero, List.set_cons_succ]; rfl)
      refine Rg.op 4 (some 52) hS (v := ?v4n) (a' := ?a4n) (hy := fun wz hwz => ?h4n) (ha := ?b4n) (h := ?_)
      case h4n => (go_simp; try with_reducible rfl)
      case b4n => (simp only [Act.put, List.setIfInBounds_toArray, List.set_cons_zero, List.set_cons_succ]; rfl)
      refine Rg.op 5 (some 53) hS (v := (.int .i64 k6)) (a' := ?a5n) (hy := fun wz hwz => ?h5n) (ha := ?b5n) (h := ?_)
      case h5n => (have e0 := M0.out; have e1 := M1.out; go_simp; try with_reducible rfl)
      case b5n => (simp only [Act.put, List.setIfInBounds_toArray, List.set_cons_zero, List.set_cons_succ]; rfl)
      refine Rg.op 6 (some 54) hS (v := ?v6n) (a' := ?a6n) (hy := fun wz hwz => ?h6n) (ha := ?b6n) (h := ?_)
      case h6n => (go_simp; try with_reducible rfl)
      case b6n => (simp only [Act.put, List.setIfInBounds_toArray, List.set_cons_zero, List.set_cons_succ]; rfl)
      refine Rg.op 7 (some 55) hS (v := ?v7n) (a' := ?a7n) (hy := fun wz hwz => ?h7n) (ha := ?b7n) (h := ?_)
      case h7n => (have hpp := Nat.lt_of_lt_of_le z5 hwz.size; go_simp; try with_reducible rfl)
      case b7n => (simp only [Act.put, List.setIfInBounds_toArray, List.set_cons_zero, List.set_cons_succ]; rfl)
      refine Rg.op 8 (some 56) hS (v := ?v8n) (a' := ?a8n) (hy := fun wz hwz => ?h8n) (ha := ?b8n) (h := ?_)
      case h8n => (have hpp := Nat.lt_of_lt_of_le z5 hwz.size; go_simp; try with_reducible rfl)
      case b8n => (simp only [Act.put, List.setIfInBounds_toArray, List.set_cons_zero, List.set_cons_succ]; rfl)
      refine Rg.op 9 (some 57) hS (v := (.slice (some ⟨gn, 0, none⟩) 6 cn)) (a' := ?a9n) (hy := fun wz hwz => ?h9n) (ha := ?b9n) (h := ?_)
      case h9n => (have cx := (hwz.cell (p := ⟨g, 4, none⟩) z5 (fun h => h)).trans n5; have hpp := Nat.lt_of_lt_of_le z5 hwz.size; go_simp; try with_reducible rfl)
      case b9n => (simp only [Act.put, List.setIfInBounds_toArray, List.set_cons_zero, List.set_cons_succ]; rfl)
      refine Rg.op 10 (some 58) hS (v := ?v10n) (a' := ?a10n) (hy := fun wz hwz => ?h10n) (ha := ?b10n) (h := ?_)
      case h10n => (go_simp; try with_reducible rfl)
      case b10n => (simp only [Act.put, List.setIfInBounds_toArray, List.set_cons_zero, List.set_cons_succ]; rfl)
      refine Rg.op 11 (some 59) hS (v := (.int .i64 k6)) (a' := ?a11n) (hy := fun wz hwz => ?h11n) (ha := ?b11n) (h := ?_)
      case h11n => (have e0 := M0.out; have e1 := M1.out; go_simp; try with_reducible rfl)
      case b11n => (simp only [Act.put, List.setIfInBounds_toArray, List.set_cons_zero, List.set_cons_succ]; rfl)
      refine Rg.op 12 (some 60) hS (v := (.pointer (some ⟨gn, k6, none⟩))) (a' := ?a12n) (hy := fun wz hwz => ?h12n) (ha := ?b12n) (h := ?_)
      case h12n => (have hp2 := Nat.lt_of_lt_of_le hgn5 hwz.size; have h6 : (k6 : Int) < 6 := (by omega); go_simp; try with_reducible rfl)
      case b12n => (simp only [Act.put, List.setIfInBounds_toArray, List.set_cons_zero, List.set_cons_succ]; rfl)
      refine Rg.op 13 (some 61) hS (v := (.string B1)) (a' := ?a13n) (hy := fun wz hwz => ?h13n) (ha := ?b13n) (h := ?_)
      case h13n => (have cx := (hwz.cell (p := ⟨gn, k6, none⟩) hgn5 (fun h => h)).trans r5; have hp2 := Nat.lt_of_lt_of_le hgn5 hwz.size; go_simp; try with_reducible rfl)
      case b13n => (simp only [Act.put, List.setIfInBounds_toArray, List.set_cons_zero, List.set_cons_succ]; rfl)
      refine Rg.op 14 (some 62) hS (v := ?v14n) (a' := ?a14n) (hy := fun wz hwz => ?h14n) (ha := ?b14n) (h := ?_)
      case h14n => (go_simp; try with_reducible rfl)
      case b14n => (simp only [Act.put, List.setIfInBounds_toArray, List.set_cons_zero, List.set_cons_succ]; rfl)
      refine Rg.op 15 (some 63) hS (v := (.int .i64 at_)) (a' := ?a15n) (hy := fun wz hwz => ?h15n) (ha := ?b15n) (h := ?_)
      case h15n => (have e0 := T0.out; go_simp; try with_reducible rfl)
      case b15n => (simp only [Act.put, List.setIfInBounds_toArray, List.set_cons_zero, List.set_cons_succ]; rfl)
      refine Rg.op 16 (some 64) hS (v := (.string B2)) (a' := ?a16n) (hy := fun wz hwz => ?h16n) (ha := ?b16n) (h := ?_)
      case h16n => (have e1 := S1.out; have e2 := Z61.out; have e3 : (at_ : Int) ≤ 480 := (by omega); go_simp; try with_reducible rfl)
      case b16n => (simp only [Act.put, List.setIfInBounds_toArray, List.set_cons_zero, List.set_cons_succ]; rfl)
      refine Rg.op 17 (some 65) hS (v := ?v17n) (a' := ?a17n) (hy := fun wz hwz => ?h17n) (ha := ?b17n) (h := ?_)
      case h17n => (go_simp; try with_reducible rfl)
      case b17n => (simp only [Act.put, List.setIfInBounds_toArray, List.set_cons_zero, List.set_cons_succ]; rfl)
      refine Rg.op 18 (some 66) hS (v := (.string B3)) (a' := ?a18n) (hy := fun wz hwz => ?h18n) (ha := ?b18n) (h := ?_)
      case h18n => (have hcv := HCv.out wz hwz; go_simp; try with_reducible rfl)
      case b18n => (simp only [Act.put, List.setIfInBounds_toArray, List.set_cons_zero, List.set_cons_succ]; rfl)
      refine Rg.op 19 (some 67) hS (v := (.string B4)) (a' := ?a19n) (hy := fun wz hwz => ?h19n) (ha := ?b19n) (h := ?_)
      case h19n => (have e1 := S4.out; have e2 : B2.size + B3.size ≤ 9223372036854775807 := (by omega); go_simp; try with_reducible rfl)
      case b19n => (simp only [Act.put, List.setIfInBounds_toArray, List.set_cons_zero, List.set_cons_succ]; rfl)
      refine Rg.op 20 (some 68) hS (v := ?v20n) (a' := ?a20n) (hy := fun wz hwz => ?h20n) (ha := ?b20n) (h := ?_)
      case h20n => (go_simp; try with_reducible rfl)
      case b20n => (simp only [Act.put, List.setIfInBounds_toArray, List.set_cons_zero, List.set_cons_succ]; rfl)
      refine Rg.op 21 (some 69) hS (v := ?v21n) (a' := ?a21n) (hy := fun wz hwz => ?h21n) (ha := ?b21n) (h := ?_)
      case h21n => (have hpp := Nat.lt_of_lt_of_le z5 hwz.size; go_simp; try with_reducible rfl)
      case b21n => (simp only [Act.put, List.setIfInBounds_toArray, List.set_cons_zero, List.set_cons_succ]; rfl)
      refine Rg.op 22 (some 70) hS (v := ?v22n) (a' := ?a22n) (hy := fun wz hwz => ?h22n) (ha := ?b22n) (h := ?_)
      case h22n => (have hpp := Nat.lt_of_lt_of_le z5 hwz.size; go_simp; try with_reducible rfl)
      case b22n => (simp only [Act.put, List.setIfInBounds_toArray, List.set_cons_zero, List.set_cons_succ]; rfl)
      refine Rg.op 23 (some 71) hS (v := (.slice (some ⟨gn, 0, none⟩) 6 cn)) (a' := ?a23n) (hy := fun wz hwz => ?h23n) (ha := ?b23n) (h := ?_)
      case h23n => (have cx := (hwz.cell (p := ⟨g, 4, none⟩) z5 (fun h => h)).trans n5; have hpp := Nat.lt_of_lt_of_le z5 hwz.size; go_simp; try with_reducible rfl)
      case b23n => (simp only [Act.put, List.setIfInBounds_toArray, List.set_cons_zero, List.set_cons_succ]; rfl)
      refine Rg.op 24 (some 72) hS (v := ?v24n) (a' := ?a24n) (hy := fun wz hwz => ?h24n) (ha := ?b24n) (h := ?_)
      case h24n => (go_simp; try with_reducible rfl)
      case b24n => (simp only [Act.put, List.setIfInBounds_toArray, List.set_cons_zero, List.set_cons_succ]; rfl)
      refine Rg.op 25 (some 73) hS (v := (.int .i64 k6)) (a' := ?a25n) (hy := fun wz hwz => ?h25n) (ha := ?b25n) (h := ?_)
      case h25n => (have e0 := M0.out; have e1 := M1.out; go_simp; try with_reducible rfl)
      case b25n => (simp only [Act.put, List.setIfInBounds_toArray, List.set_cons_zero, List.set_cons_succ]; rfl)
      refine Rg.op 26 (some 74) hS (v := (.pointer (some ⟨gn, k6, none⟩))) (a' := ?a26n) (hy := fun wz hwz => ?h26n) (ha := ?b26n) (h := ?_)
      case h26n => (have hp2 := Nat.lt_of_lt_of_le hgn5 hwz.size; have h6 : (k6 : Int) < 6 := (by omega); go_simp; try with_reducible rfl)
      case b26n => (simp only [Act.put, List.setIfInBounds_toArray, List.set_cons_zero, List.set_cons_succ]; rfl)
      refine Rg.op 27 (some 75) hS (v := (.string B1)) (a' := ?a27n) (hy := fun wz hwz => ?h27n) (ha := ?b27n) (h := ?_)
      case h27n => (have cx := (hwz.cell (p := ⟨gn, k6, none⟩) hgn5 (fun h => h)).trans r5; have hp2 := Nat.lt_of_lt_of_le hgn5 hwz.size; go_simp; try with_reducible rfl)
      case b27n => (simp only [Act.put, List.setIfInBounds_toArray, List.set_cons_zero, List.set_cons_succ]; rfl)
      refine Rg.op 28 (some 76) hS (v := ?v28n) (a' := ?a28n) (hy := fun wz hwz => ?h28n) (ha := ?b28n) (h := ?_)
      case h28n => (go_simp; try with_reducible rfl)
      case b28n => (simp only [Act.put, List.setIfInBounds_toArray, List.set_cons_zero, List.set_cons_succ]; rfl)
      refine Rg.op 29 (some 77) hS (v := (.int .i64 at_)) (a' := ?a29n) (hy := fun wz hwz => ?h29n) (ha := ?b29n) (h := ?_)
      case h29n => (have e0 := T0.out; go_simp; try with_reducible rfl)
      case b29n => (simp only [Act.put, List.setIfInBounds_toArray, List.set_cons_zero, List.set_cons_succ]; rfl)
      refine Rg.op 30 (some 78) hS (v := (.int .i64 at2)) (a' := ?a30n) (hy := fun wz hwz => ?h30n) (ha := ?b30n) (h := ?_)
      case h30n => (have e0 := T2.out; go_simp; try with_reducible rfl)
      case b30n => (simp only [Act.put, List.setIfInBounds_toArray, List.set_cons_zero, List.set_cons_succ]; rfl)
      refine Rg.op 31 (some 79) hS (v := (.string B5)) (a' := ?a31n) (hy := fun wz hwz => ?h31n) (ha := ?b31n) (h := ?_)
      case h31n => (have e1 := S2.out; have e2 := Z61.out; have e3 : (at2 : Int) ≤ 480 := (by omega); go_simp; try with_reducible rfl)
      case b31n => (simp only [Act.put, List.setIfInBounds_toArray, List.set_cons_zero, List.set_cons_succ]; rfl)
      refine Rg.op 32 (some 80) hS (v := (.string B6)) (a' := ?a32n) (hy := fun wz hwz => ?h32n) (ha := ?b32n) (h := ?_)
      case h32n => (have e1 := S3.out; have e2 : B4.size + B5.size ≤ 9223372036854775807 := (by omega); go_simp; try with_reducible rfl)
      case b32n => (simp only [Act.put, List.setIfInBounds_toArray, List.set_cons_zero, List.set_cons_succ]; rfl)
      refine Rg.op 33 (some 81) hS (v := (.pointer (some ⟨gn, k6, none⟩))) (a' := ?a33n) (hy := fun wz hwz => ?h33n) (ha := ?b33n) (h := ?_)
      case h33n => (have hp2 := Nat.lt_of_lt_of_le hgn5 hwz.size; have h6 : (k6 : Int) < 6 := (by omega); go_simp; try with_reducible rfl)
      case b33n => (simp only [Act.put, List.setIfInBounds_toArray, List.set_cons_zero, List.set_cons_succ]; rfl)
      refine Rg.store 34 (w' := ?w34n) (hrun := ?h34n) (hS := (fun h => absurd (by decide) h)) (h := ?_)
      case h34n => (have cc := r5; have ff := hgr5; have hh := hgn5; go_simp; try with_reducible rfl)
      refine Rg.done _ (h := ?_)
      have hw6 := (HW5.out.setNow k6 (layB pc at_ (byB k1 20)) hk6b).new (Fr.refl Nob _).drew
      have hN6 : setP (svPg k) k6 (layB pc at_ (byB k1 20)) = svPg (k + 1) := by rw [← HPc.out, setP_lay]; exact HPg.out
      have hS6 : tS (layB pc at_ (byB k1 20)) = .string B6 := by rw [tS_eq, HB6.out]
      rw [hN6, hS6] at hw6
      have hf56 : Fr (fun b => b = gn) w5 (w5.setCell ⟨gn, k6, none⟩ (.string B6)).drew := ((Fr.refl (fun b => b = gn) w5).setCell (p := ⟨gn, k6, none⟩) (.inr rfl) _).drew
      have hwas6 := HWas5.out.fr hf56 (fun b e => .inr (by rw [show b = gn from e]; rfl))
      obtain ⟨w6, hw6e⟩ : ∃ W, (w5.setCell ⟨gn, k6, none⟩ (.string B6)).drew = W := ⟨_, rfl⟩
      rw [hw6e] at hw6 hwas6 ⊢
      have hsv := Save_tb hw6.tx HB5.out (by omega)
      rw [HK1.out] at hsv
      have HSv := Lib.hid hsv
      have HW6 := Lib.hid hw6
      have HWas6 := Lib.hid hwas6
      have HD5 := Lib.hid HB5.out.d
      have a6 := hw6.cs
      have z6 := hw6.lt
      clear hw6 hwas6 hf56 hsv hN6 hS6 hw6e HW5 HWas5 HB5 hS r5 hgr5 hgn5 n5 a5 z5 HCv S1 S2 S3 S4 Z61 HB6 T0 T2 M0 M1 HPc hat2b HLen HBl
      go_wp2_with fail
      refine HSv.out.mono ?_
      rintro e w7 ⟨rfl, RS7, T7, h7, hb7, hs7⟩
      have hw7 := HW6.out.step h7 hs7 (hb7.d.trans HD5.out.symm)
      have hwas7 := HWas6.out.step hs7.fr3 (fun b hb => .inl hb) (hs7.alln (nv := .slice (some ⟨gn, 0, none⟩) 6 cn))
      rw [← HK1.out, ← svL_succ] at hb7
      obtain ⟨⟨ss, hss, hrows⟩, hap⟩ := hwas7
      have n7 := hw7.cn
      have z7 := hw7.lt
      have hgn7 : gn < w7.heap.size := own_lt (show w7.ownsRow _ 9 1 (.slice (some ⟨gn, 0, none⟩) 6 cn) 6 _ from hw7.now) (g := gn) rfl
      have hfe : Fr Nob w7 (w7.alloc (.cells #[] 9)) := (Fr.refl _ w7).alloc _
      have hoe : (w7.alloc (.cells #[] 9)).ownsRow w.heap.size 9 1 (.slice (some ⟨w7.heap.size, 0, none⟩) 0 0) 0 [] := own_base (World.ownsRow_made w7 #[] 0 (Nat.le_refl _) (by decide) rfl) (fun b hb => by
        have e : w7.heap.size = b := by simpa [Value.ownBlock] using hb
        have := hw7.fr.size
        omega)
      have HE := Lib.hid hoe
      have hnr := hw7.now
      have HNc : Hid (∀ j u, ((List.range 6).map fun i => tS (svPg (k + 1) i))[j]? = some u → (w7.alloc (.cells #[] 9)).cell? ((⟨gn, 0, none⟩ : Addr).add j) = some u) := fun j u hu => by
        have hj : j < 6 := by have := (List.getElem?_eq_some_iff.1 hu).1; simpa using this
        rw [Addr.add_mid, Nat.zero_add, hfe.cell (p := ⟨gn, j, none⟩) hgn7 (fun h => h), Row6.at_ hnr j hj]
        rw [List.getElem?_map, List.getElem?_range hj] at hu
        exact hu
      obtain ⟨sl, hsl⟩ : ∃ l, ((List.range 6).map fun i => tS (svPg (k + 1) i)) = l := ⟨_, rfl⟩
      have hsll := row6_list_len (svPg (k + 1))
      have hsl1 := row6_one (svPg (k + 1))
      rw [hsl] at HNc hsll hsl1
      have HSl := Lib.hid hsl
      have HSll := Lib.hid hsll
      have HSl1 := Lib.hid hsl1
      have HW7 := Lib.hid hw7
      have HB7 := Lib.hid hb7
      have HSs := Lib.hid hss
      have HSs7 := Lib.hid hss
      have HRows := Lib.hid hrows
      have HAp := Lib.hid hap
      have HFe := Lib.hid hfe
      have hz7 := hw7.fr.size
      clear h7 hb7 hs7 hw7 hss hrows hap hfe hoe hnr hsl hsll hsl1 HSv HW6 HWas6 HD5 a6 z6
      go_wp2_with (at_builtin; first
        | (refine wpList_append_own_at _ rfl (.tmp 99) (.tmp 103) 34 rfl w.heap.size 9 i0 (.string ⟨#[]⟩) 1 16 Tryz.underlying34 hi0 iz0 iz1 iz2 rfl (by decide) (.slice (some ⟨w7.heap.size, 0, none⟩) 0 0) 0 [] rfl HE.out ⟨gn, 0, none⟩ 6 cn sl rfl HSll.out HNc.out HSl1.out (by decide) (by decide) (by have := HFe.out.size; omega) ?_
           intro vc w8 hown8 hgr8 hnil8 hat8
           obtain ⟨gk, ck, hvc, _, hgk8⟩ := hown8.form (by omega)
           subst hvc
           have hgk7 : w7.heap.size ≤ gk := (by
             rcases hat8 with e | e
             · have e2 : gk = w7.heap.size := by simpa [Value.ownBlock] using e
               omega
             · have e2 : gk = (w7.alloc (.cells #[] 9)).heap.size := by simpa [Value.ownBlock] using e
               have := HFe.out.size
               omega)
           have HF8 : Hid (Fr Nob w7 w8) := HFe.out.grown hgr8 (fun r hr => .inl (by have e2 : w7.heap.size = r := (by simpa [Value.ownBlock] using hr); omega))
           have HRow8 : Hid (Row6 w8 w.heap.size (.slice (some ⟨gk, 0, none⟩) 6 ck) (svPg (k + 1))) := (by unfold Row6; rw [Hid, HSl.out]; exact hown8)
           have hfb : Fr Nob w8 (w8.alloc (.cells #[.slice (some ⟨gk, 0, none⟩) 6 ck] 34)) := (Fr.refl _ w8).alloc _
           have hbb : Blk (w8.alloc (.cells #[.slice (some ⟨gk, 0, none⟩) 6 ck] 34)) w8.heap.size 34 #[.slice (some ⟨gk, 0, none⟩) 6 ck] := Blk.new _ _ _
           have HSb := Lib.hid (own_fr HSs.out (HF8.out.trans hfb) (fun _ _ h => h))
           have HNb : Hid (∀ j u, ([Value.slice (some ⟨gk, 0, none⟩) 6 ck])[j]? = some u → (w8.alloc (.cells #[.slice (some ⟨gk, 0, none⟩) 6 ck] 34)).cell? ((⟨w8.heap.size, 0, none⟩ : Addr).add j) = some u) := (fun j u hu => by rw [Addr.add_mid, Nat.zero_add]; exact (hbb.cell j).trans (by simpa using hu))
           have HFb := Lib.hid hfb
           clear hown8 hgr8 hnil8 hat8 hfb hbb)
        | (refine wpList_append_own_at _ rfl (.tmp 98) (.tmp 105) 35 rfl w.heap.size 34 j0 (.slice none 0 0) 1 24 Tryz.underlying35 hj0 jz0 jz1 jz2 rfl (by decide) u6 k ss rfl HSb.out ⟨w8.heap.size, 0, none⟩ 1 1 [.slice (some ⟨gk, 0, none⟩) 6 ck] rfl rfl HNb.out (by intro u hu; rw [List.mem_singleton] at hu; subst hu; rfl) (by unfold maxLen; omega) (by omega) (by have := HF8.out.size; have := HFb.out.size; omega) ?_
           intro v9 w9 hown9 hgr9 hnil9 hat9
           have HOwn9 := Lib.hid hown9
           have HGr9 := Lib.hid hgr9
           have HAt9 := Lib.hid hat9
           clear hown9 hgr9 hnil9 hat9))
      have hnew : ∃ RS RO U T, TW w w9 RS RO U g s (3 * (k + 1)) (2 * (k + 1)) T (2048 : Nat) 2 (.slice (some ⟨gn, 0, none⟩) 6 cn) lv (svPg (k + 1)) ∧ TB T d 2048 (svPg (k + 1)) CZ (svL (k + 1)) (k + 1) (k + 1) 0 (97903 - 116 * ((k + 1 : Nat) : Int)) ∧ WasAt w9 w.heap.size (AllN RS RO U (.slice (some ⟨gn, 0, none⟩) 6 cn)) v9 (k + 1) (fun j => svPg (j + 1)) := by
        have hf79 := (HF8.out.trans HFb.out)
        have hw8 := HW7.out.new hf79
        have hfg : Fr (fun b => u6.ownBlock = some b) (w8.alloc (.cells #[.slice (some ⟨gk, 0, none⟩) 6 ck] 34)) w9 := (Fr.refl _ _).grown HGr9.out (fun r hr => .inr hr)
        have hg8 : g ≠ gk := by have := HW7.out.lt; omega
        have hall : ∀ b, AllN RS7 RO5 U5 (.slice (some ⟨gn, 0, none⟩) 6 cn) b → b < w7.heap.size := fun b hb => by
          rcases hb with hb | hb
          · exact HW7.out.tx.all3lt hb
          · have e2 : gn = b := by simpa [Value.ownBlock] using hb
            omega
        have hu6 : ∀ b, u6.ownBlock = some b → b < w7.heap.size ∧ w.heap.size ≤ b := fun b hb => ⟨own_lt HSs7.out hb, (HSs7.out.lt b hb).1⟩
        have hgw : ∀ b, u6.ownBlock = some b → b ≠ g := fun b hb e => by
          obtain ⟨cs1, hb1⟩ := own_blk HSs7.out hb
          subst e
          exact Blk.ne_ (t := 34) (t' := 38) hb1 HW7.out.wld (by decide) rfl
        have hw9 := hw8.other hfg (fun b hb => ⟨fun e => HAp.out b hb (.inl e), fun e => HAp.out b hb (.inr e), hgw b hb, (hu6 b hb).2⟩)
        refine ⟨RS7, RO5, U5, T7, by rw [show 3 * (k + 1) = 3 * k + 3 from by omega, show 2 * (k + 1) = 2 * k + 1 + 1 from by omega]; exact hw9, by rw [show (97903 : Int) - 116 * ((k + 1 : Nat) : Int) = 97903 - 116 * (k : Int) - (56 + 3 * ((20 : Nat) : Int)) from by omega]; exact HB7.out, ?_⟩
        refine WasAt.push HSb.out (fun j hj => ?_) (own_fr HRow8.out HFb.out (fun _ _ h => h)) (fun e => by have := hall gk e; omega) hfg HOwn9.out (fun b hb e => ?_)
        · obtain ⟨g1, c1, e1, e2, e3⟩ := HRows.out j hj
          exact ⟨g1, c1, e1, own_fr e2 hf79 (fun _ _ h => h), e3⟩
        · rcases HAt9.out with e9 | e9
          · exact HAp.out b (e9 ▸ hb) e
          · rw [e9] at hb
            have e2 : (w8.alloc (.cells #[.slice (some ⟨gk, 0, none⟩) 6 ck] 34)).heap.size = b := by simpa using hb
            have := hall b e
            have := HF8.out.size
            have := HFb.out.size
            omega
      have HNew := Lib.hid hnew
      clear hnew
      go_roundw
      case rel => exact ⟨k + 1, by omega, by rw [HK1.out], HNew⟩
      case measure => simp [intOf]; omega
    · obtain rfl : k = n := by omega
      obtain ⟨RS3, RO3, U3, T3, hw3, hb3, hwas⟩ := hX.out
      have HW3 := Lib.hid hw3
      have HB3 := Lib.hid hb3
      have HWas := Lib.hid hwas
      clear hX hw3 hb3 hwas
      obtain ⟨gv, cv, hvw, hcv, _⟩ : ∃ gv cv, u6 = .slice (some ⟨gv, 0, none⟩) k cv ∧ k ≤ cv ∧ True := by
        obtain ⟨gv, cv, _, _, e1, e2, _⟩ := HWas.out.get 0 (by omega)
        exact ⟨gv, cv, e1, e2, trivial⟩
      subst hvw
      have HAll : Hid (∀ x : Int, ∃ y : Nat, bits .and .i64 x 255 = (y : Int) ∧ y ≤ 255) := fun x => ⟨(x % 256).toNat, by rw [i64_and255]; omega, by omega⟩
      go_wp2_with fail
      go_loopw [11, 12] (fun tv iv wr => ∃ i top M K un : Nat, iv = .int .i64 i ∧ tv = .int .i64 top ∧ i ≤ 12 ∧ i ≤ xs.length ∧ 1 ≤ top ∧ top ≤ k ∧ M ≤ 24 + 40 * i ∧ K ≤ 16 + 10 * i ∧ Hid (∃ RS RO U T, TW w wr RS RO U g s M K T (2048 : Nat) 2 (.slice (some ⟨gn, 0, none⟩) 6 cn) lv (svPg k) ∧ TB T d 2048 (svPg top) CZ (svL top) top k un (97903 - 116 * (k : Int)) ∧ WasAt wr w.heap.size (AllN RS RO U (.slice (some ⟨gn, 0, none⟩) 6 cn)) (.slice (some ⟨gv, 0, none⟩) k cv) k (fun j => svPg (j + 1)))) (fun _ iv _ => 12 - (intOf iv).toNat)
      case atStart => exact ⟨0, k, 3 * k, 2 * k, 0, rfl, rfl, by omega, Nat.zero_le _, hnp, Nat.le_refl _, by omega, by omega, RS3, RO3, U3, T3, HW3.out, HB3.out, HWas.out⟩
      case round =>
        clear HW3 HB3 HWas
        obtain ⟨i, top, M, K, un, rfl, rfl, hi12, hil, ht1, htk, hM, hK, hX⟩ := hrel
        obtain ⟨RS4, RO4, U4, T4, hw4, hb4, hwas4⟩ := hX.out
        have HW4 := Lib.hid hw4
        have HB4 := Lib.hid hb4
        have HWas4 := Lib.hid hwas4
        clear hX hw4 hb4 hwas4
        by_cases hgo : i < xs.length ∧ i < 12
        · obtain ⟨hg1, hg2⟩ := hgo
          obtain ⟨x, hxi⟩ : ∃ x, xs[i]? = some x := ⟨_, List.getElem?_eq_getElem hg1⟩
          obtain ⟨kb, ko, rfl, hcx⟩ := HX.out.2 (by omega)
          have hxw := (HW4.out.fr.cell (p := ⟨kb, ko + i, none⟩) (cell_lt (hcx i x hxi)) (fun h => h)).trans (hcx i x hxi)
          have zkb : kb < wr.heap.size := Nat.lt_of_lt_of_le (cell_lt (hcx i x hxi)) HW4.out.fr.size
          obtain ⟨y, hy, hyb⟩ := HAll.out x
          obtain ⟨r, hr⟩ : ∃ r, y % k = r := ⟨_, rfl⟩
          have hrk : r < k := by rw [← hr]; exact Nat.mod_lt _ (by omega)
          have r1 : (y : Int).tmod (k : Int) = (r : Int) := by rw [Int.tmod_eq_emod_of_nonneg (by omega), ← hr]; rfl
          have r0 : IntKind.i64.wrap ((y : Int).tmod (k : Int)) = (r : Int) := by rw [r1, IntKind.wrap_i64]; omega
          have r2 : (y : Int) % (k : Int) = (r : Int) := by rw [← hr]; rfl
          obtain ⟨kk, hkk⟩ : ∃ x, r + 1 = x := ⟨_, rfl⟩
          have k0 : IntKind.i64.wrap ((r : Int) + 1) = (kk : Int) := by rw [IntKind.wrap_i64]; omega
          have k1 : (r : Int) + 1 = (kk : Int) := by omega
          have hkn : ¬ (k : Int) = 0 := by omega
          have hgI : (i : Int) < (xs.length : Int) := by omega
          have hgI2 : (i : Int) < 12 := by omega
          have hbk := BackS_tb HW4.out.tx HB4.out kk (by omega) (by omega) (by omega)
          have HBk := Lib.hid hbk
          have a4 := HW4.out.cs
          have z4 := HW4.out.lt
          have hkk1 : 1 ≤ kk := by omega
          have hkkn : kk ≤ k := by omega
          clear hbk hr hxi hcx
          go_wp2_with fail
          refine HBk.out.mono ?_
          rintro e w5 (⟨i5, at5, W5, RS5, U5, T5, hi5, _, rfl, h5, hb5, hs5⟩ | ⟨hno, rfl, hf5⟩)
          · have hi5t : i5 < top := by have := (List.getElem?_eq_some_iff.1 hi5).1; simpa [svL] using this
            rw [svL_get top i5 hi5t] at hi5
            injection hi5 with hi5
            simp only [Prod.mk.injEq] at hi5
            obtain ⟨hq1, hq2, hq3⟩ := hi5
            have hkt : kk ≤ top := by omega
            rw [hq1] at hq2 hq3 hb5
            rw [← hq2] at h5 hb5
            rw [← hq3, svL_take top kk hkt] at hb5
            have hw5 := HW4.out.step h5 hs5 (hb5.d.trans HB4.out.d.symm)
            have hwas5 := HWas4.out.step hs5.fr3 (fun b hb => .inl hb) (hs5.alln (nv := .slice (some ⟨gn, 0, none⟩) 6 cn))
            obtain ⟨_, _, gk, ck, hv1, _, hv2, hv3, hv4⟩ := hwas5.get (kk - 1) (by omega)
            injection hv1 with hv1 _ hv1c
            injection hv1 with hv1
            injection hv1 with hv1 _ _
            subst hv1 hv1c
            obtain ⟨km, hkm⟩ : ∃ x, kk - 1 = x := ⟨_, rfl⟩
            rw [hkm] at hv2 hv3
            have hkmk : km < k := by omega
            have e0 : IntKind.i64.wrap ((kk : Int) - 1) = (km : Int) := by rw [IntKind.wrap_i64]; omega
            have e2 : (kk : Int) - 1 = (km : Int) := by omega
            have hkm1 : km + 1 = kk := by omega
            have hst := fun (W : World) (hW : Fr Nob w5 W) => Stands_tx (hw5.tx.new hW) gk ck (fun i hi => by
              rw [congrFun hb5.pages i, Row6.at_ (own_fr hv3 hW (fun _ _ h => h)) i hi, hkm1]) (fun e => hv4 (.inl (.inl e))) (fun e => hv4 (.inl (.inr (.inr e)))) (by omega)
            have HSt := Lib.hid hst
            have HW5 := Lib.hid hw5
            have HB5 := Lib.hid hb5
            have HWas5 := Lib.hid hwas5
            have a5 := hw5.cs
            have z5 := hw5.lt
            have zgv : gv < w5.heap.size := cell_lt hv2
            have HV2 := Lib.hid hv2
            have E0 := Lib.hid e0
            have E0b : Hid (IntKind.i64.wrap (km : Int) = (km : Int)) := by rw [Hid, IntKind.wrap_i64]; omega
            have hktI : ¬ (top : Int) < (kk : Int) := by omega
            have HMk : Hid (M + 2 * (top - kk) ≤ M + 2 * 8 ∧ K + (top - kk) ≤ K + 8) := by constructor <;> omega
            clear h5 hb5 hs5 hw5 hwas5 hst hv2 hv3 hv4 hq1 hq2 hq3 HBk HW4 HB4 HWas4 a4 z4 hxw zkb
            go_wp2_with fail
            have hS : Fr Nob w5 w5.drew := (Fr.refl _ w5).drew
            refine Rg.begin (Fr Nob w5) [12, 13, 14] (by kernel_rfl) ?_
            refine Rg.op 0 (some 138) hS (v := ?v0b) (a' := ?a0b) (hy := fun wz hwz => ?h0b) (ha := ?b0b) (h := ?_)
            case h0b => (go_simp; try with_reducible rfl)
            case b0b => (simp only [Act.put, List.setIfInBounds_toArray, List.set_cons_zero, List.set_cons_succ]; rfl)
            refine Rg.op 1 (some 139) hS (v := ?v1b) (a' := ?a1b) (hy := fun wz hwz => ?h1b) (ha := ?b1b) (h := ?_)
            case h1b => (go_simp; try with_reducible rfl)
            case b1b => (simp only [Act.put, List.setIfInBounds_toArray, List.set_cons_zero, List.set_cons_succ]; rfl)
            refine Rg.op 2 (some 140) hS (v := ?v2b) (a' := ?a2b) (hy := fun wz hwz => ?h2b) (ha := ?b2b) (h := ?_)
            case h2b => (go_simp; try with_reducible rfl)
            case b2b => (simp only [Act.put, List.setIfInBounds_toArray, List.set_cons_zero, List.set_cons_succ]; rfl)
            refine Rg.op 3 (some 141) hS (v := ?v3b) (a' := ?a3b) (hy := fun wz hwz => ?h3b) (ha := ?b3b) (h := ?_)
            case h3b => (go_simp; try with_reducible rfl)
            case b3b => (simp only [Act.put, List.setIfInBounds_toArray, List.set_cons_zero, List.set_cons_succ]; rfl)
            refine Rg.op 4 (some 142) hS (v := ?v4b) (a' := ?a4b) (hy := fun wz hwz => ?h4b) (ha := ?b4b) (h := ?_)
            case h4b => (have hpp := Nat.lt_of_lt_of_le z5 hwz.size; go_simp; try with_reducible rfl)
            case b4b => (simp only [Act.put, List.setIfInBounds_toArray, List.set_cons_zero, List.set_cons_succ]; rfl)
            refine Rg.op 5 (some 143) hS (v := ?v5b) (a' := ?a5b) (hy := fun wz hwz => ?h5b) (ha := ?b5b) (h := ?_)
            case h5b => (have hpp := Nat.lt_of_lt_of_le z5 hwz.size; go_simp; try with_reducible rfl)
            case b5b => (simp only [Act.put, List.setIfInBounds_toArray, List.set_cons_zero, List.set_cons_succ]; rfl)
            refine Rg.op 6 (some 144) hS (v := (.pointer (some ⟨s, 0, none⟩))) (a' := ?a6b) (hy := fun wz hwz => ?h6b) (ha := ?b6b) (h := ?_)
            case h6b => (have cx := (hwz.cell (p := ⟨g, 1, none⟩) z5 (fun h => h)).trans a5; have hpp := Nat.lt_of_lt_of_le z5 hwz.size; go_simp; try with_reducible rfl)
            case b6b => (simp only [Act.put, List.setIfInBounds_toArray, List.set_cons_zero, List.set_cons_succ]; rfl)
            refine Rg.op 7 (some 145) hS (v := ?v7b) (a' := ?a7b) (hy := fun wz hwz => ?h7b) (ha := ?b7b) (h := ?_)
            case h7b => (go_simp; try with_reducible rfl)
            case b7b => (simp only [Act.put, List.setIfInBounds_toArray, List.set_cons_zero, List.set_cons_succ]; rfl)
            refine Rg.op 8 (some 146) hS (v := ?v8b) (a' := ?a8b) (hy := fun wz hwz => ?h8b) (ha := ?b8b) (h := ?_)
            case h8b => (go_simp; try with_reducible rfl)
            case b8b => (simp only [Act.put, List.setIfInBounds_toArray, List.set_cons_zero, List.set_cons_succ]; rfl)
            refine Rg.op 9 (some 147) hS (v := (.int .i64 km)) (a' := ?a9b) (hy := fun wz hwz => ?h9b) (ha := ?b9b) (h := ?_)
            case h9b => (have e1 := E0.out; have e3 := E0b.out; go_simp; try with_reducible rfl)
            case b9b => (simp only [Act.put, List.setIfInBounds_toArray, List.set_cons_zero, List.set_cons_succ]; rfl)
            refine Rg.op 10 (some 148) hS (v := (.pointer (some ⟨gv, km, none⟩))) (a' := ?a10b) (hy := fun wz hwz => ?h10b) (ha := ?b10b) (h := ?_)
            case h10b => (have h6 : (km : Int) < (k : Int) := (by omega); have hpp := Nat.lt_of_lt_of_le zgv hwz.size; go_simp; try with_reducible rfl)
            case b10b => (simp only [Act.put, List.setIfInBounds_toArray, List.set_cons_zero, List.set_cons_succ]; rfl)
            refine Rg.op 11 (some 149) hS (v := (.slice (some ⟨gk, 0, none⟩) 6 ck)) (a' := ?a11b) (hy := fun wz hwz => ?h11b) (ha := ?b11b) (h := ?_)
            case h11b => (have cx := (hwz.cell (p := ⟨gv, km, none⟩) zgv (fun h => h)).trans HV2.out; have hpp := Nat.lt_of_lt_of_le zgv hwz.size; go_simp; try with_reducible rfl)
            case b11b => (simp only [Act.put, List.setIfInBounds_toArray, List.set_cons_zero, List.set_cons_succ]; rfl)
            refine Rg.call 12 (some 150) (hrun := ?h12b) (hcall := HSt.out _ hS) (h := ?_)
            case h12b => (go_simp)
            rintro e w6 ⟨rfl, U6, h6, hs6⟩
            refine ⟨_, ?a12b, rfl, ?b12b, (fun h => absurd (by decide) h), ?_⟩
            case b12b => (simp only [Act.put, List.setIfInBounds_toArray, List.set_cons_zero, List.set_cons_succ]; rfl)
            refine Rg.late 13 (some 151) (v := ?v13b) (a' := ?a13b) (hrun := ?h13b) (ha := ?b13b) (h := ?_)
            case h13b => (go_simp; try with_reducible rfl)
            case b13b => (simp only [Act.put, List.setIfInBounds_toArray, List.set_cons_zero, List.set_cons_succ]; rfl)
            refine Rg.late 14 (some 152) (v := ?v14b) (a' := ?a14b) (hrun := ?h14b) (ha := ?b14b) (h := ?_)
            case h14b => (go_simp; try with_reducible rfl)
            case b14b => (simp only [Act.put, List.setIfInBounds_toArray, List.set_cons_zero, List.set_cons_succ]; rfl)
            refine Rg.done _ (h := ?_)
            have hw6 := (HW5.out.new hS).step h6 hs6 rfl
            have hwas6 := (HWas5.out.fr hS (fun _ h => h.elim)).step hs6.fr3 (fun b hb => .inl hb) (hs6.alln (nv := .slice (some ⟨gn, 0, none⟩) 6 cn))
            have hmk := HMk.out
            have hnew : ∃ i' top' M' K' un' : Nat, (i + 1 = i') ∧ (kk = top') ∧ i' ≤ 12 ∧ i' ≤ xs.length ∧ 1 ≤ top' ∧ top' ≤ k ∧ M' ≤ 24 + 40 * i' ∧ K' ≤ 16 + 10 * i' ∧ Hid (∃ RS RO U T, TW w w6 RS RO U g s M' K' T (2048 : Nat) 2 (.slice (some ⟨gn, 0, none⟩) 6 cn) lv (svPg k) ∧ TB T d 2048 (svPg top') CZ (svL top') top' k un' (97903 - 116 * (k : Int)) ∧ WasAt w6 w.heap.size (AllN RS RO U (.slice (some ⟨gn, 0, none⟩) 6 cn)) (.slice (some ⟨gv, 0, none⟩) k cv) k (fun j => svPg (j + 1))) :=
              ⟨i + 1, kk, _, _, _, rfl, rfl, by omega, by omega, hkk1, hkkn, by omega, by omega, RS5, RO4, U6, T5, hw6, HB5.out, hwas6⟩
            have HNew := Lib.hid hnew
            clear hw6 hwas6 hmk hnew h6 hs6
            go_wp2
            go_roundw
            case rel =>
              obtain ⟨i', top', M', K', un', rfl, rfl, q1, q2, q3, q4, q5, q6, q7⟩ := HNew.out
              first
                | exact ⟨i + 1, kk, M', K', un', by go_num, rfl, q1, q2, q3, q4, q5, q6, q7⟩
                | ((repeat apply Exists.intro); exact ⟨⟨i + 1, kk, M', K', un', by go_num, rfl, q1, q2, q3, q4, q5, q6, q7⟩, rfl⟩)
            case measure => simp [intOf]; omega
          · have hkt : top < kk := by
              rcases Nat.lt_or_ge top kk with e | e
              · exact e
              · exact absurd rfl (hno (kk, kk, svPg kk) (by
                  have := svL_get top (kk - 1) (by omega)
                  rw [show kk - 1 + 1 = kk from by omega] at this
                  exact List.mem_of_getElem? this))
            have hktI : (top : Int) < (kk : Int) := by omega
            have hnew : ∃ RS RO U T, TW w w5 RS RO U g s M K T (2048 : Nat) 2 (.slice (some ⟨gn, 0, none⟩) 6 cn) lv (svPg k) ∧ TB T d 2048 (svPg top) CZ (svL top) top k un (97903 - 116 * (k : Int)) ∧ WasAt w5 w.heap.size (AllN RS RO U (.slice (some ⟨gn, 0, none⟩) 6 cn)) (.slice (some ⟨gv, 0, none⟩) k cv) k (fun j => svPg (j + 1)) :=
              ⟨RS4, RO4, U4, T4, HW4.out.new hf5, HB4.out, HWas4.out.fr hf5 (fun _ h => h.elim)⟩
            have HNew := Lib.hid hnew
            clear hnew hf5 hno HBk HW4 HB4 HWas4 a4 z4 hxw zkb
            go_wp2
            go_roundw
            case rel =>
              first
                | exact ⟨i + 1, top, M, K, un, by go_num, rfl, by omega, by omega, ht1, htk, by omega, by omega, HNew⟩
                | ((repeat apply Exists.intro); exact ⟨⟨i + 1, top, M, K, un, by go_num, rfl, by omega, by omega, ht1, htk, by omega, by omega, HNew⟩, rfl⟩)
            case measure => simp [intOf]; omega
        · have hcm := Lib.hid (Commit_tb HW4.out.tx HB4.out (by omega) (by omega))
          obtain ⟨_, _, gk, ck, hv1, _, hv2, hv3, hv4⟩ := HWas4.out.get (top - 1) (by omega)
          injection hv1 with hv1 _ hv1c
          injection hv1 with hv1
          injection hv1 with hv1 _ _
          subst hv1 hv1c
          obtain ⟨km, hkm⟩ : ∃ x, top - 1 = x := ⟨_, rfl⟩
          rw [hkm] at hv2 hv3
          have hkmk : km < k := by omega
          have e0 : IntKind.i64.wrap ((top : Int) - 1) = (km : Int) := by rw [IntKind.wrap_i64]; omega
          have e2 : (top : Int) - 1 = (km : Int) := by omega
          have hkm1 : km + 1 = top := by omega
          have HV2 := Lib.hid hv2
          have HV3 := Lib.hid hv3
          have HV4 := Lib.hid hv4
          have E0 := Lib.hid e0
          have zgv : gv < wr.heap.size := cell_lt hv2
          have a4 := HW4.out.cs
          have z4 := HW4.out.lt
          have hng := HW4.out.ng
          have hngv : ¬ All3 RS4 RO4 U4 gv := fun e => HWas4.out.ap gv rfl (.inl e)
          have hngk : ¬ All3 RS4 RO4 U4 gk := fun e => hv4 (.inl e)
          have zgk : gk < wr.heap.size := own_lt (show wr.ownsRow _ 9 1 _ 6 _ from hv3) (g := gk) rfl
          clear hv2 hv3 hv4 e0 e2 hkm
          have E0b : Hid (IntKind.i64.wrap (km : Int) = (km : Int)) := by rw [Hid, IntKind.wrap_i64]; omega
          rcases (by omega : ¬ i < xs.length ∨ (i < xs.length ∧ ¬ i < 12)) with hno | ⟨hno1, hno2⟩
          · have hI : ¬ (i : Int) < (xs.length : Int) := by omega
            go_wp2_with fail
            have hS : Fr (All3 RS4 RO4 U4) wr wr.drew := (Fr.refl _ wr).drew
            have hSn : Fr Nob wr wr.drew := (Fr.refl _ wr).drew
            refine Rg.begin (Fr (All3 RS4 RO4 U4) wr) [] (by kernel_rfl) ?_
            refine Rg.op 0 (some 153) hS (v := ?v0c) (a' := ?a0c) (hy := fun wz hwz => ?h0c) (ha := ?b0c) (h := ?_)
            case h0c => (go_simp; try with_reducible rfl)
            case b0c => (simp only [Act.put, List.setIfInBounds_toArray, List.set_cons_zero, List.set_cons_succ]; rfl)
            refine Rg.op 1 (some 154) hS (v := ?v1c) (a' := ?a1c) (hy := fun wz hwz => ?h1c) (ha := ?b1c) (h := ?_)
            case h1c => (have hpp := Nat.lt_of_lt_of_le z4 hwz.size; go_simp; try with_reducible rfl)
            case b1c => (simp only [Act.put, List.setIfInBounds_toArray, List.set_cons_zero, List.set_cons_succ]; rfl)
            refine Rg.op 2 (some 155) hS (v := ?v2c) (a' := ?a2c) (hy := fun wz hwz => ?h2c) (ha := ?b2c) (h := ?_)
            case h2c => (have hpp := Nat.lt_of_lt_of_le z4 hwz.size; go_simp; try with_reducible rfl)
            case b2c => (simp only [Act.put, List.setIfInBounds_toArray, List.set_cons_zero, List.set_cons_succ]; rfl)
            refine Rg.op 3 (some 156) hS (v := (.pointer (some ⟨s, 0, none⟩))) (a' := ?a3c) (hy := fun wz hwz => ?h3c) (ha := ?b3c) (h := ?_)
            case h3c => (have cx := (hwz.cell (p := ⟨g, 1, none⟩) z4 hng).trans a4; have hpp := Nat.lt_of_lt_of_le z4 hwz.size; go_simp; try with_reducible rfl)
            case b3c => (simp only [Act.put, List.setIfInBounds_toArray, List.set_cons_zero, List.set_cons_succ]; rfl)
            have hcm5 := Commit_tb (HW4.out.tx.new hSn) HB4.out (by omega) (by omega)
            have HCm5 := Lib.hid hcm5
            clear hcm5
            refine Rg.call 4 (some 157) (hrun := ?h4c) (hcall := HCm5.out) (h := ?_)
            case h4c => (go_simp)
            rintro e w5 ⟨rfl, RS5, U5, T5, h5, hb5, hs5⟩
            have hS5 : Fr (All3 RS4 RO4 U4) wr w5 := hS.trans hs5.fr3
            have hw5 := (HW4.out.new hSn).step h5 hs5 (hb5.d.trans HB4.out.d.symm)
            have hst := Stands_tx h5 gk ck (fun i hi => by rw [congrFun hb5.pages i, (hS5.cell (p := ⟨gk, i, none⟩) zgk hngk).trans (Row6.at_ HV3.out i hi), hkm1]) (fun e => hs5.keep (hngk : ¬ All3 RS4 RO4 U4 gk) (Nat.lt_of_lt_of_le zgk hSn.size) (.inl e)) (fun e => hs5.keep (hngk : ¬ All3 RS4 RO4 U4 gk) (Nat.lt_of_lt_of_le zgk hSn.size) (.inr (.inr e))) (by omega)
            have HKp : Hid (∀ i, i < wr.heap.size → All3 RS5 RO4 U5 i → All3 RS4 RO4 U4 i) := fun i hi e => Classical.byContradiction (fun hn => hs5.keep hn (Nat.lt_of_lt_of_le hi hSn.size) e)
            have HSt := Lib.hid hst
            clear hst h5 hb5 hs5 hw5 HCm5
            refine ⟨_, ?a4c, rfl, ?b4c, (fun _ => hS5), ?_⟩
            case b4c => (simp only [Act.put, List.setIfInBounds_toArray, List.set_cons_zero, List.set_cons_succ]; rfl)
            refine Rg.op 5 (some 158) hS5 (v := ?v5c) (a' := ?a5c) (hy := fun wz hwz => ?h5c) (ha := ?b5c) (h := ?_)
            case h5c => (go_simp; try with_reducible rfl)
            case b5c => (simp only [Act.put, List.setIfInBounds_toArray, List.set_cons_zero, List.set_cons_succ]; rfl)
            refine Rg.op 6 (some 159) hS5 (v := ?v6c) (a' := ?a6c) (hy := fun wz hwz => ?h6c) (ha := ?b6c) (h := ?_)
            case h6c => (go_simp; try with_reducible rfl)
            case b6c => (simp only [Act.put, List.setIfInBounds_toArray, List.set_cons_zero, List.set_cons_succ]; rfl)
            refine Rg.op 7 (some 160) hS5 (v := ?v7c) (a' := ?a7c) (hy := fun wz hwz => ?h7c) (ha := ?b7c) (h := ?_)
            case h7c => (go_simp; try with_reducible rfl)
            case b7c => (simp only [Act.put, List.setIfInBounds_toArray, List.set_cons_zero, List.set_cons_succ]; rfl)
            refine Rg.op 8 (some 161) hS5 (v := ?v8c) (a' := ?a8c) (hy := fun wz hwz => ?h8c) (ha := ?b8c) (h := ?_)
            case h8c => (have hpp := Nat.lt_of_lt_of_le z4 hwz.size; go_simp; try with_reducible rfl)
            case b8c => (simp only [Act.put, List.setIfInBounds_toArray, List.set_cons_zero, List.set_cons_succ]; rfl)
            refine Rg.op 9 (some 162) hS5 (v := ?v9c) (a' := ?a9c) (hy := fun wz hwz => ?h9c) (ha := ?b9c) (h := ?_)
            case h9c => (have hpp := Nat.lt_of_lt_of_le z4 hwz.size; go_simp; try with_reducible rfl)
            case b9c => (simp only [Act.put, List.setIfInBounds_toArray, List.set_cons_zero, List.set_cons_succ]; rfl)
            refine Rg.op 10 (some 163) hS5 (v := (.pointer (some ⟨s, 0, none⟩))) (a' := ?a10c) (hy := fun wz hwz => ?h10c) (ha := ?b10c) (h := ?_)
            case h10c => (have cx := (hwz.cell (p := ⟨g, 1, none⟩) z4 hng).trans a4; have hpp := Nat.lt_of_lt_of_le z4 hwz.size; go_simp; try with_reducible rfl)
            case b10c => (simp only [Act.put, List.setIfInBounds_toArray, List.set_cons_zero, List.set_cons_succ]; rfl)
            refine Rg.op 11 (some 164) hS5 (v := ?v11c) (a' := ?a11c) (hy := fun wz hwz => ?h11c) (ha := ?b11c) (h := ?_)
            case h11c => (go_simp; try with_reducible rfl)
            case b11c => (simp only [Act.put, List.setIfInBounds_toArray, List.set_cons_zero, List.set_cons_succ]; rfl)
            refine Rg.op 12 (some 165) hS5 (v := ?v12c) (a' := ?a12c) (hy := fun wz hwz => ?h12c) (ha := ?b12c) (h := ?_)
            case h12c => (go_simp; try with_reducible rfl)
            case b12c => (simp only [Act.put, List.setIfInBounds_toArray, List.set_cons_zero, List.set_cons_succ]; rfl)
            refine Rg.op 13 (some 166) hS5 (v := (.int .i64 km)) (a' := ?a13c) (hy := fun wz hwz => ?h13c) (ha := ?b13c) (h := ?_)
            case h13c => (have e1 := E0.out; have e3 := E0b.out; go_simp; try with_reducible rfl)
            case b13c => (simp only [Act.put, List.setIfInBounds_toArray, List.set_cons_zero, List.set_cons_succ]; rfl)
            refine Rg.op 14 (some 167) hS5 (v := (.pointer (some ⟨gv, km, none⟩))) (a' := ?a14c) (hy := fun wz hwz => ?h14c) (ha := ?b14c) (h := ?_)
            case h14c => (have h6 : (km : Int) < (k : Int) := (by omega); have hpp := Nat.lt_of_lt_of_le zgv hwz.size; go_simp; try with_reducible rfl)
            case b14c => (simp only [Act.put, List.setIfInBounds_toArray, List.set_cons_zero, List.set_cons_succ]; rfl)
            refine Rg.op 15 (some 168) hS5 (v := (.slice (some ⟨gk, 0, none⟩) 6 ck)) (a' := ?a15c) (hy := fun wz hwz => ?h15c) (ha := ?b15c) (h := ?_)
            case h15c => (have cx := (hwz.cell (p := ⟨gv, km, none⟩) zgv hngv).trans HV2.out; have hpp := Nat.lt_of_lt_of_le zgv hwz.size; go_simp; try with_reducible rfl)
            case b15c => (simp only [Act.put, List.setIfInBounds_toArray, List.set_cons_zero, List.set_cons_succ]; rfl)
            refine Rg.call 16 (some 169) (hrun := ?h16c) (hcall := HSt.out) (h := ?_)
            case h16c => (go_simp)
            rintro e w6 ⟨rfl, U6, h6, hs6⟩
            have hS6 : Fr (All3 RS4 RO4 U4) wr w6 := hS5.step hs6.fr3 HKp.out
            clear h6 hs6 HSt
            refine ⟨_, ?a16c, rfl, ?b16c, (fun _ => hS6), ?_⟩
            case b16c => (simp only [Act.put, List.setIfInBounds_toArray, List.set_cons_zero, List.set_cons_succ]; rfl)
            refine Rg.op 17 (some 170) hS6 (v := ?v17c) (a' := ?a17c) (hy := fun wz hwz => ?h17c) (ha := ?b17c) (h := ?_)
            case h17c => (go_simp; try with_reducible rfl)
            case b17c => (simp only [Act.put, List.setIfInBounds_toArray, List.set_cons_zero, List.set_cons_succ]; rfl)
            refine Rg.op 18 (some 171) hS6 (v := ?v18c) (a' := ?a18c) (hy := fun wz hwz => ?h18c) (ha := ?b18c) (h := ?_)
            case h18c => (go_simp; try with_reducible rfl)
            case b18c => (simp only [Act.put, List.setIfInBounds_toArray, List.set_cons_zero, List.set_cons_succ]; rfl)
            refine Rg.call 19 (some 172) (hrun := ?h19c) (hcall := HAw.out _) (h := ?_)
            case h19c => (go_simp)
            rintro e w7 ⟨rfl, hf7⟩
            have hS7 : Fr (All3 RS4 RO4 U4) wr w7 := hS6.trans (hf7.mono (fun _ _ h => h.elim))
            clear hf7
            refine ⟨_, ?a19c, rfl, ?b19c, (fun _ => hS7), ?_⟩
            case b19c => (simp only [Act.put, List.setIfInBounds_toArray, List.set_cons_zero, List.set_cons_succ]; rfl)
            refine Rg.op 20 (some 173) hS7 (v := ?v20c) (a' := ?a20c) (hy := fun wz hwz => ?h20c) (ha := ?b20c) (h := ?_)
            case h20c => (go_simp; try with_reducible rfl)
            case b20c => (simp only [Act.put, List.setIfInBounds_toArray, List.set_cons_zero, List.set_cons_succ]; rfl)
            refine Rg.op 21 (some 4) hS7 (v := ?v21c) (a' := ?a21c) (hy := fun wz hwz => ?h21c) (ha := ?b21c) (h := ?_)
            case h21c => (go_simp; try with_reducible rfl)
            case b21c => (simp only [Act.put, List.setIfInBounds_toArray, List.set_cons_zero, List.set_cons_succ]; rfl)
            refine Rg.done _ (h := ?_)
            go_wp2
            go_ret
            exact ⟨rfl, HW4.out.fr.step hS7 (fun i hi e => by have := HW4.out.hi i e; omega)⟩
          · have hI : (i : Int) < (xs.length : Int) := by omega
            have hI2 : ¬ (i : Int) < 12 := by omega
            go_wp2_with fail
            have hS : Fr (All3 RS4 RO4 U4) wr wr.drew := (Fr.refl _ wr).drew
            have hSn : Fr Nob wr wr.drew := (Fr.refl _ wr).drew
            refine Rg.begin (Fr (All3 RS4 RO4 U4) wr) [] (by kernel_rfl) ?_
            refine Rg.op 0 (some 153) hS (v := ?v0d) (a' := ?a0d) (hy := fun wz hwz => ?h0d) (ha := ?b0d) (h := ?_)
            case h0d => (go_simp; try with_reducible rfl)
            case b0d => (simp only [Act.put, List.setIfInBounds_toArray, List.set_cons_zero, List.set_cons_succ]; rfl)
            refine Rg.op 1 (some 154) hS (v := ?v1d) (a' := ?a1d) (hy := fun wz hwz => ?h1d) (ha := ?b1d) (h := ?_)
            case h1d => (have hpp := Nat.lt_of_lt_of_le z4 hwz.size; go_simp; try with_reducible rfl)
            case b1d => (simp only [Act.put, List.setIfInBounds_toArray, List.set_cons_zero, List.set_cons_succ]; rfl)
            refine Rg.op 2 (some 155) hS (v := ?v2d) (a' := ?a2d) (hy := fun wz hwz => ?h2d) (ha := ?b2d) (h := ?_)
            case h2d => (have hpp := Nat.lt_of_lt_of_le z4 hwz.size; go_simp; try with_reducible rfl)
            case b2d => (simp only [Act.put, List.setIfInBounds_toArray, List.set_cons_zero, List.set_cons_succ]; rfl)
            refine Rg.op 3 (some 156) hS (v := (.pointer (some ⟨s, 0, none⟩))) (a' := ?a3d) (hy := fun wz hwz => ?h3d) (ha := ?b3d) (h := ?_)
            case h3d => (have cx := (hwz.cell (p := ⟨g, 1, none⟩) z4 hng).trans a4; have hpp := Nat.lt_of_lt_of_le z4 hwz.size; go_simp; try with_reducible rfl)
            case b3d => (simp only [Act.put, List.setIfInBounds_toArray, List.set_cons_zero, List.set_cons_succ]; rfl)
            have hcm5 := Commit_tb (HW4.out.tx.new hSn) HB4.out (by omega) (by omega)
            have HCm5 := Lib.hid hcm5
            clear hcm5
            refine Rg.call 4 (some 157) (hrun := ?h4d) (hcall := HCm5.out) (h := ?_)
            case h4d => (go_simp)
            rintro e w5 ⟨rfl, RS5, U5, T5, h5, hb5, hs5⟩
            have hS5 : Fr (All3 RS4 RO4 U4) wr w5 := hS.trans hs5.fr3
            have hw5 := (HW4.out.new hSn).step h5 hs5 (hb5.d.trans HB4.out.d.symm)
            have hst := Stands_tx h5 gk ck (fun i hi => by rw [congrFun hb5.pages i, (hS5.cell (p := ⟨gk, i, none⟩) zgk hngk).trans (Row6.at_ HV3.out i hi), hkm1]) (fun e => hs5.keep (hngk : ¬ All3 RS4 RO4 U4 gk) (Nat.lt_of_lt_of_le zgk hSn.size) (.inl e)) (fun e => hs5.keep (hngk : ¬ All3 RS4 RO4 U4 gk) (Nat.lt_of_lt_of_le zgk hSn.size) (.inr (.inr e))) (by omega)
            have HKp : Hid (∀ i, i < wr.heap.size → All3 RS5 RO4 U5 i → All3 RS4 RO4 U4 i) := fun i hi e => Classical.byContradiction (fun hn => hs5.keep hn (Nat.lt_of_lt_of_le hi hSn.size) e)
            have HSt := Lib.hid hst
            clear hst h5 hb5 hs5 hw5 HCm5
            refine ⟨_, ?a4d, rfl, ?b4d, (fun _ => hS5), ?_⟩
            case b4d => (simp only [Act.put, List.setIfInBounds_toArray, List.set_cons_zero, List.set_cons_succ]; rfl)
            refine Rg.op 5 (some 158) hS5 (v := ?v5d) (a' := ?a5d) (hy := fun wz hwz => ?h5d) (ha := ?b5d) (h := ?_)
            case h5d => (go_simp; try with_reducible rfl)
            case b5d => (simp only [Act.put, List.setIfInBounds_toArray, List.set_cons_zero, List.set_cons_succ]; rfl)
            refine Rg.op 6 (some 159) hS5 (v := ?v6d) (a' := ?a6d) (hy := fun wz hwz => ?h6d) (ha := ?b6d) (h := ?_)
            case h6d => (go_simp; try with_reducible rfl)
            case b6d => (simp only [Act.put, List.setIfInBounds_toArray, List.set_cons_zero, List.set_cons_succ]; rfl)
            refine Rg.op 7 (some 160) hS5 (v := ?v7d) (a' := ?a7d) (hy := fun wz hwz => ?h7d) (ha := ?b7d) (h := ?_)
            case h7d => (go_simp; try with_reducible rfl)
            case b7d => (simp only [Act.put, List.setIfInBounds_toArray, List.set_cons_zero, List.set_cons_succ]; rfl)
            refine Rg.op 8 (some 161) hS5 (v := ?v8d) (a' := ?a8d) (hy := fun wz hwz => ?h8d) (ha := ?b8d) (h := ?_)
            case h8d => (have hpp := Nat.lt_of_lt_of_le z4 hwz.size; go_simp; try with_reducible rfl)
            case b8d => (simp only [Act.put, List.setIfInBounds_toArray, List.set_cons_zero, List.set_cons_succ]; rfl)
            refine Rg.op 9 (some 162) hS5 (v := ?v9d) (a' := ?a9d) (hy := fun wz hwz => ?h9d) (ha := ?b9d) (h := ?_)
            case h9d => (have hpp := Nat.lt_of_lt_of_le z4 hwz.size; go_simp; try with_reducible rfl)
            case b9d => (simp only [Act.put, List.setIfInBounds_toArray, List.set_cons_zero, List.set_cons_succ]; rfl)
            refine Rg.op 10 (some 163) hS5 (v := (.pointer (some ⟨s, 0, none⟩))) (a' := ?a10d) (hy := fun wz hwz => ?h10d) (ha := ?b10d) (h := ?_)
            case h10d => (have cx := (hwz.cell (p := ⟨g, 1, none⟩) z4 hng).trans a4; have hpp := Nat.lt_of_lt_of_le z4 hwz.size; go_simp; try with_reducible rfl)
            case b10d => (simp only [Act.put, List.setIfInBounds_toArray, List.set_cons_zero, List.set_cons_succ]; rfl)
            refine Rg.op 11 (some 164) hS5 (v := ?v11d) (a' := ?a11d) (hy := fun wz hwz => ?h11d) (ha := ?b11d) (h := ?_)
            case h11d => (go_simp; try with_reducible rfl)
            case b11d => (simp only [Act.put, List.setIfInBounds_toArray, List.set_cons_zero, List.set_cons_succ]; rfl)
            refine Rg.op 12 (some 165) hS5 (v := ?v12d) (a' := ?a12d) (hy := fun wz hwz => ?h12d) (ha := ?b12d) (h := ?_)
            case h12d => (go_simp; try with_reducible rfl)
            case b12d => (simp only [Act.put, List.setIfInBounds_toArray, List.set_cons_zero, List.set_cons_succ]; rfl)
            refine Rg.op 13 (some 166) hS5 (v := (.int .i64 km)) (a' := ?a13d) (hy := fun wz hwz => ?h13d) (ha := ?b13d) (h := ?_)
            case h13d => (have e1 := E0.out; have e3 := E0b.out; go_simp; try with_reducible rfl)
            case b13d => (simp only [Act.put, List.setIfInBounds_toArray, List.set_cons_zero, List.set_cons_succ]; rfl)
            refine Rg.op 14 (some 167) hS5 (v := (.pointer (some ⟨gv, km, none⟩))) (a' := ?a14d) (hy := fun wz hwz => ?h14d) (ha := ?b14d) (h := ?_)
            case h14d => (have h6 : (km : Int) < (k : Int) := (by omega); have hpp := Nat.lt_of_lt_of_le zgv hwz.size; go_simp; try with_reducible rfl)
            case b14d => (simp only [Act.put, List.setIfInBounds_toArray, List.set_cons_zero, List.set_cons_succ]; rfl)
            refine Rg.op 15 (some 168) hS5 (v := (.slice (some ⟨gk, 0, none⟩) 6 ck)) (a' := ?a15d) (hy := fun wz hwz => ?h15d) (ha := ?b15d) (h := ?_)
            case h15d => (have cx := (hwz.cell (p := ⟨gv, km, none⟩) zgv hngv).trans HV2.out; have hpp := Nat.lt_of_lt_of_le zgv hwz.size; go_simp; try with_reducible rfl)
            case b15d => (simp only [Act.put, List.setIfInBounds_toArray, List.set_cons_zero, List.set_cons_succ]; rfl)
            refine Rg.call 16 (some 169) (hrun := ?h16d) (hcall := HSt.out) (h := ?_)
            case h16d => (go_simp)
            rintro e w6 ⟨rfl, U6, h6, hs6⟩
            have hS6 : Fr (All3 RS4 RO4 U4) wr w6 := hS5.step hs6.fr3 HKp.out
            clear h6 hs6 HSt
            refine ⟨_, ?a16d, rfl, ?b16d, (fun _ => hS6), ?_⟩
            case b16d => (simp only [Act.put, List.setIfInBounds_toArray, List.set_cons_zero, List.set_cons_succ]; rfl)
            refine Rg.op 17 (some 170) hS6 (v := ?v17d) (a' := ?a17d) (hy := fun wz hwz => ?h17d) (ha := ?b17d) (h := ?_)
            case h17d => (go_simp; try with_reducible rfl)
            case b17d => (simp only [Act.put, List.setIfInBounds_toArray, List.set_cons_zero, List.set_cons_succ]; rfl)
            refine Rg.op 18 (some 171) hS6 (v := ?v18d) (a' := ?a18d) (hy := fun wz hwz => ?h18d) (ha := ?b18d) (h := ?_)
            case h18d => (go_simp; try with_reducible rfl)
            case b18d => (simp only [Act.put, List.setIfInBounds_toArray, List.set_cons_zero, List.set_cons_succ]; rfl)
            refine Rg.call 19 (some 172) (hrun := ?h19d) (hcall := HAw.out _) (h := ?_)
            case h19d => (go_simp)
            rintro e w7 ⟨rfl, hf7⟩
            have hS7 : Fr (All3 RS4 RO4 U4) wr w7 := hS6.trans (hf7.mono (fun _ _ h => h.elim))
            clear hf7
            refine ⟨_, ?a19d, rfl, ?b19d, (fun _ => hS7), ?_⟩
            case b19d => (simp only [Act.put, List.setIfInBounds_toArray, List.set_cons_zero, List.set_cons_succ]; rfl)
            refine Rg.op 20 (some 173) hS7 (v := ?v20d) (a' := ?a20d) (hy := fun wz hwz => ?h20d) (ha := ?b20d) (h := ?_)
            case h20d => (go_simp; try with_reducible rfl)
            case b20d => (simp only [Act.put, List.setIfInBounds_toArray, List.set_cons_zero, List.set_cons_succ]; rfl)
            refine Rg.op 21 (some 4) hS7 (v := ?v21d) (a' := ?a21d) (hy := fun wz hwz => ?h21d) (ha := ?b21d) (h := ?_)
            case h21d => (go_simp; try with_reducible rfl)
            case b21d => (simp only [Act.put, List.setIfInBounds_toArray, List.set_cons_zero, List.set_cons_succ]; rfl)
            refine Rg.done _ (h := ?_)
            go_wp2
            go_ret
            exact ⟨rfl, HW4.out.fr.step hS7 (fun i hi e => by have := HW4.out.hi i e; omega)⟩
end Go.Proofs.YtfapklpcgcgahaaGreatDoor
