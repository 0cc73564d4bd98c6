/-
  TxnRoom, in one text.
-/
import Derived.Test.YtfapklpcgcgahaaGreatDoorMg39
import Derived.Deep.DeepCutAuto
/-
  TxnRoom returns true.
-/
namespace Go.Proofs.YtfapklpcgcgahaaGreatDoor
set_option linter.unusedSimpArgs false
set_option linter.unusedVariables false
open Go.RowKit Go.Maps

/-- Outside a transaction: what the statement's rounds keep. -/
def RmOut (w wr : World) (g s d M K : Nat) : Prop := ∃ RS RO U T C un nv lv, TW w wr RS RO U g s M K T (256 : Nat) 2 nv lv C ∧ TI T d 256 C un 0 ∧ LastRow wr w.heap.size (AllG RS RO U nv g) lv C
/-- Within one: k Writes of cs bytes of the log each. -/
def RmIn (w wr : World) (g s d M K cs k : Nat) : Prop := ∃ RS RO U T C B un nv lv, TW w wr RS RO U g s M K T (256 : Nat) 2 nv lv C ∧ TB T d 256 C B [] k 0 un (11143 - ((cs * k : Nat) : Int)) ∧ LastRow wr w.heap.size (AllG RS RO U nv g) lv B
set_option maxHeartbeats 12800000 in
set_option maxRecDepth 100000 in
theorem TxnRoom_row (nn lo ev : Int) (w : World) :
    Calls Tryz.prog 4 #[.int .i64 nn, .int .i64 lo, .int .i64 ev] w fun e w' => e = .returned (.bool true) ∧ Fr Nob w w' := by
  obtain ⟨i0, hi0, iz0, iz1, iz2⟩ := info_parts' info_str6
  obtain ⟨y, hy, hyb⟩ := andK_nat nn 255 (by omega)
  obtain ⟨long, hlo, hlob⟩ := andK_nat lo 255 (by omega)
  have hy : bits .and .i64 nn 255 = (y : Int) := hy
  have hlo : bits .and .i64 lo 255 = (long : Int) := hlo
  obtain ⟨n, hn⟩ : ∃ n, y % 60 = n := ⟨_, rfl⟩
  have hn60 : n < 60 := by omega
  have r1 : (y : Int).tmod 60 = (n : Int) := by rw [Int.tmod_eq_emod_of_nonneg (by omega)]; omega
  have r0 : IntKind.i64.wrap ((y : Int).tmod 60) = (n : Int) := by rw [r1, IntKind.wrap_i64]; omega
  obtain ⟨l64, hl64⟩ : ∃ x, long + 64 = x := ⟨_, rfl⟩
  have l0 : IntKind.i64.wrap ((long : Int) + 64) = (l64 : Int) := by rw [IntKind.wrap_i64]; omega
  have l1 : (long : Int) + 64 = (l64 : Int) := by omega
  have l2 : ¬ (l64 : Int) = 0 := by omega
  obtain ⟨each, hea⟩ : ∃ x, 512 / l64 = x := ⟨_, rfl⟩
  have d1 : Int.tdiv 512 (l64 : Int) = (each : Int) := by rw [Int.tdiv_eq_ediv_of_nonneg (by omega), ← hea]; rfl
  have hea8 : each ≤ 8 := by
    have h1 := Nat.div_mul_le_self 512 l64
    rw [hea] at h1
    have h2 : each * 64 ≤ each * l64 := Nat.mul_le_mul_left _ (by omega)
    omega
  have d0 : IntKind.i64.wrap (Int.tdiv 512 (l64 : Int)) = (each : Int) := by rw [d1, IntKind.wrap_i64]; omega
  obtain ⟨cs, hcs⟩ : ∃ x, 56 + 3 * long = x := ⟨_, rfl⟩
  have HCs : Hid (∀ k, k ≤ each → cs * k ≤ 1536) := fun k hk => by
    have h1 := Nat.div_mul_le_self 512 l64
    rw [hea] at h1
    have h2 : cs * k ≤ (3 * l64) * each := Nat.mul_le_mul (by omega) hk
    have h3 : (3 * l64) * each = 3 * (each * l64) := by rw [Nat.mul_assoc, Nat.mul_comm l64]
    omega
  obtain ⟨m480, hm480⟩ : ∃ x : Nat, 480 - long = x := ⟨_, rfl⟩
  have m0 : IntKind.i64.wrap (480 - (long : Int)) = (m480 : Int) := by rw [IntKind.wrap_i64]; omega
  have m1 : (480 : Int) - (long : Int) = (m480 : Int) := by omega
  have m2 : ¬ (m480 : Int) = 0 := by omega
  have HMd : Hid (Calls Tryz.prog 14 #[.int .i64 256, .int .i64 2] w fun e w' => ∃ g s d p l f RS U nv lv, e = .returned (.pointer (some ⟨g, 0, none⟩)) ∧ TW w w' RS (fun _ => False) U g s 0 0 (TS.fresh d p l f 6 256 2) (256 : Nat) 2 nv lv CZ ∧ Row6 w' w.heap.size lv CZ ∧ (∀ b, lv.ownBlock = some b → ¬ All3 RS (fun _ => False) U b ∧ nv.ownBlock ≠ some b)) := Made6_two 256 2 w (by omega) (by omega) (by omega) (by omega)
  have HAw : Hid (∀ W, Calls Tryz.prog 13 #[] W fun e w' => e = .returned (.bool true) ∧ Fr Nob W w') := Awake6_any
  have HBy : Hid (∀ (k : Nat) W, k ≤ 100 → Calls Tryz.prog 16 #[.int .i64 (k : Int), .int .i64 (long : Int)] W fun e w' => e = .returned (.slice (some ⟨W.heap.size, 0, none⟩) long long) ∧ Blk w' W.heap.size 5 (bts (byB k long)).toArray ∧ Fr Nob W w') := fun k W hk => Bytes6_any k long W (by omega) (by omega)
  have HHy := Lib.hid hy
  have HHlo := Lib.hid hlo
  have HCse := Lib.hid hcs
  have HM0 := Lib.hid m0
  have HM1 := Lib.hid m1
  clear hn hl64 hea hcs
  go_enter Tryz.func4, Tryz.ntmps4
  go_wp2_with fail
  refine HMd.out.mono ?_
  rintro e w1 ⟨g, s, d, p, l, f, RS1, U1, nv, lv, rfl, hw1, hl1, hl2⟩
  have hti := TI.fresh d p l f 256 2
  have hout : RmOut w w1 g s d 0 0 := ⟨RS1, _, U1, _, CZ, 0, nv, lv, hw1, { hti with room := by have := hti.room; omega }, hl1, fun b hb e => by
    rcases e with (e | e) | e
    · exact (hl2 b hb).1 e
    · exact (hl2 b hb).2 e
    · obtain ⟨cs1, hb1⟩ := own_blk (show w1.ownsRow _ 9 1 lv 6 _ from hl1) hb
      exact Blk.ne_ (t := 9) (t' := 38) hb1 hw1.wld (by decide) e⟩
  have HOut := Lib.hid hout
  clear hti hw1 hl1 hl2 hout HMd
  go_wp2_with fail
  go_loopw [9] (fun iv wr => ∃ i M K : Nat, i ≤ n ∧ iv = .int .i64 i ∧ M ≤ 100 * i ∧ K ≤ 40 * i ∧ Hid (RmOut w wr g s d M K)) (fun iv _ => n - (intOf iv).toNat)
  case atStart => exact ⟨0, 0, 0, by omega, rfl, by omega, by omega, HOut⟩
  case round =>
    clear HOut
    obtain ⟨i, M, K, hi, rfl, hM, hK, hX⟩ := hrel
    obtain ⟨RS1, RO1, U1, T1, C, un, nv, lv, hw1, hti1, hla1⟩ := hX.out
    have HW1 := Lib.hid hw1
    have HLa1 := Lib.hid hla1
    have a1 := hw1.cs
    have z1 := hw1.lt
    by_cases hlt : i < n
    · have HBg := Lib.hid (Begin_tb2 hw1.tx hti1 (by omega) (by omega) (by omega))
      have HD1 := Lib.hid hti1.d
      clear hX hw1 hti1 hla1
      go_wp2_with fail
      refine HBg.out.mono ?_
      rintro e w2 ⟨rfl, RS2, U2, T2, h2, hb2, hs2⟩
      have hw2 := HW1.out.step h2 hs2 (hb2.d.trans HD1.out.symm)
      have hla2 := HLa1.out.subs hs2
      have hin : RmIn w w2 g s d (M + 8) K cs 0 := ⟨RS2, RO1, U2, T2, C, C, un, nv, lv, hw2, { hb2 with room := by have := hb2.room; omega }, hla2⟩
      have HIn := Lib.hid hin
      clear h2 hb2 hs2 hw2 hla2 hin HBg HD1 HW1 HLa1 a1 z1
      go_wp2_with fail
      go_loopw [10] (fun kv wr => ∃ k : Nat, k ≤ each ∧ kv = .int .i64 k ∧ Hid (RmIn w wr g s d (M + 8 + 3 * k) (K + k) cs k)) (fun kv _ => each - (intOf kv).toNat)
      case atStart => exact ⟨0, by omega, rfl, HIn⟩
      case round =>
        clear HIn
        obtain ⟨k, hk, rfl, hX⟩ := hrel
        by_cases hke : k < each
        · obtain ⟨RS3, RO3, U3, T3, C3, B3, un3, nv3, lv3, hw3, hb3, hla3⟩ := hX.out
          obtain ⟨gn, cn, rfl, hcn, hgn⟩ := hw3.form
          have HW3 := Lib.hid hw3
          have HB3 := Lib.hid hb3
          have HLa3 := Lib.hid hla3
          clear hX hw3 hb3 hla3
          obtain ⟨i7, hi7⟩ : ∃ x, i * 7 = x := ⟨_, rfl⟩
          have t7 : IntKind.i64.wrap ((i : Int) * 7) = (i7 : Int) := by rw [IntKind.wrap_i64]; omega
          have t8 : (i : Int) * 7 = (i7 : Int) := by omega
          obtain ⟨at_, hat⟩ : ∃ x, i7 % m480 = x := ⟨_, rfl⟩
          have hatb : at_ < m480 := by rw [← hat]; exact Nat.mod_lt _ (by omega)
          have q1 : (i7 : Int).tmod (m480 : Int) = (at_ : Int) := by rw [Int.tmod_eq_emod_of_nonneg (by omega), ← hat]; rfl
          have q0 : IntKind.i64.wrap ((i7 : Int).tmod (m480 : Int)) = (at_ : Int) := by rw [q1, IntKind.wrap_i64]; omega
          obtain ⟨ik, hik⟩ : ∃ x, i + k = x := ⟨_, rfl⟩
          have e0 : IntKind.i64.wrap ((i : Int) + (k : Int)) = (ik : Int) := by rw [IntKind.wrap_i64]; omega
          have e1 : (i : Int) + (k : Int) = (ik : Int) := by omega
          have HBy1 := Lib.hid (HBy.out ik wr (by omega))
          have m0 := HM0.out
          have m1 := HM1.out
          clear hi7 hat hik
          go_wp2_with fail
          refine HBy1.out.mono ?_
          rintro e w4 ⟨rfl, hbk, hf4⟩
          have hw4 := HW3.out.new hf4
          have hla4 := HLa3.out.new hf4
          have hbi := bytesIn_of hbk
          have hbl : (byB ik long).length = long := byB_length ik long
          obtain ⟨k6, hk6⟩ : ∃ x : Nat, k % 6 = x := ⟨_, rfl⟩
          have hk6b : k6 < 6 := by omega
          have p1 : (k : Int).tmod 6 = (k6 : Int) := by rw [Int.tmod_eq_emod_of_nonneg (by omega)]; omega
          have p0 : IntKind.i64.wrap ((k : Int).tmod 6) = (k6 : Int) := by rw [p1, IntKind.wrap_i64]; omega
          have hnot : ¬ RS3 wr.heap.size ∧ ¬ RO3 wr.heap.size ∧ ¬ U3 wr.heap.size := ⟨fun e => by have := HW3.out.tx.lts _ e; omega, fun e => by have := HW3.out.tx.lto _ e; omega, fun e => by have := HW3.out.tx.ltu _ e; omega⟩
          have hzw : wr.heap.size < w4.heap.size := hbk.lt
          have hck := HCs.out k (by omega)
          have hck1 := HCs.out (k + 1) (by omega)
          have hcm : cs * (k + 1) = cs * k + cs := Nat.mul_succ cs k
          have hce := HCse.out
          have hwr := Write_tb hw4.tx HB3.out k6 at_ wr.heap.size 0 long (byB ik long) hbi hzw hnot hk6b (by rw [hbl]; omega) (by omega) (by rw [hbl]; exact Nat.le_refl _) (by omega) (by rw [hbl]; omega) (by omega) (by omega)
          have hlen := HB3.out.len hw4.tx k6 hk6b
          rw [hbl] at hwr
          have HWr := Lib.hid hwr
          have HW4 := Lib.hid hw4
          have HLa4 := Lib.hid hla4
          have HBi := Lib.hid hbi
          have HBl := Lib.hid hbl
          have HLen := Lib.hid hlen
          have HQ : Hid (11143 - ((cs * k : Nat) : Int) - (56 + 3 * (long : Int)) = 11143 - ((cs * (k + 1) : Nat) : Int)) := by rw [Hid, hcm]; omega
          have a4 := hw4.cs
          have z4 := hw4.lt
          have HD3 := Lib.hid HB3.out.d
          clear hk6 hbk hf4 hw4 hla4 hbi hbl hnot hwr hlen hck hck1 hcm hce HBy1 q0 q1 t7 t8 e0 e1 m0 m1
          go_wp2_with fail
          refine HWr.out.mono ?_
          rintro e w5 ⟨rfl, RS5, RO5, U5, T5, h5, hb5, hs5⟩
          have hw5 := HW4.out.step h5 hs5 (hb5.d.trans HD3.out.symm)
          have hla5 := HLa4.out.subs hs5
          rw [HQ.out] at hb5
          have HW5 := Lib.hid hw5
          have HB5 := Lib.hid hb5
          have HLa5 := Lib.hid hla5
          have a5 := hw5.cs
          have z5 := hw5.lt
          have n5 := hw5.cn
          have r5 := Row6.at_ hw5.now k6 hk6b
          have hgn5 : gn < w5.heap.size := own_lt (show w5.ownsRow _ 9 1 (.slice (some ⟨gn, 0, none⟩) 6 cn) 6 _ from hw5.now) (g := gn) rfl
          have hgr5 : w5.frozen? ⟨gn, k6, none⟩ = false := by
            obtain ⟨cur, hcur⟩ := own_blk (show w5.ownsRow _ 9 1 (.slice (some ⟨gn, 0, none⟩) 6 cn) 6 _ from hw5.now) (g := gn) rfl
            exact hcur.frozen k6
          have hbk5 : BytesIn w5 (some ⟨wr.heap.size, 0, none⟩) (byB ik long) := (HBi.out).fr hs5.fr3 (fun a ha e => by
            injection ha with ha
            subst ha
            have := HW3.out.tx.all3lt e
            have e : wr.heap.size < wr.heap.size := this
            omega)
          have HCv : Hid (∀ W, Fr Nob w5 W → (convert 40 9 (.slice (some ⟨wr.heap.size, 0, none⟩) long long)).run Tryz.prog W = .ok (.string (tB (byB ik long))) W) := fun W hW => by
            have := conv_in (hbk5.new hW) long
            rw [HBl.out] at this
            exact this
          rw [tS_eq] at r5
          obtain ⟨pc, hpc⟩ : ∃ l, C3 k6 = l := ⟨_, rfl⟩
          have hpl : pc.length = 480 := by rw [← hpc]; exact HLen.out
          rw [hpc] at r5
          have s1 := tB_take pc at_ (by omega)
          have s2 := tB_drop pc (at_ + long)
          rw [hpl] at s2
          have s3 := tB_lay pc at_ (byB ik long)
          rw [HBl.out] at s3
          have s4 := tB_append (pc.take at_) (byB ik long)
          have z61 := tB_size pc
          rw [hpl] at z61
          have z62 : (tB (pc.take at_)).size ≤ 480 := by rw [tB_size, List.length_take]; omega
          have z63 : (tB (byB ik long)).size ≤ 480 := by rw [tB_size, HBl.out]; omega
          have z64 : (tB (pc.take at_ ++ byB ik long)).size ≤ 960 := by rw [tB_size, List.length_append, List.length_take, HBl.out]; omega
          have z65 : (tB (pc.drop (at_ + long))).size ≤ 480 := by rw [tB_size, List.length_drop]; omega
          rw [s4] at s3
          obtain ⟨B1, hB1⟩ : ∃ x, tB pc = x := ⟨_, rfl⟩
          obtain ⟨B2, hB2⟩ : ∃ x, tB (pc.take at_) = x := ⟨_, rfl⟩
          obtain ⟨B3', hB3⟩ : ∃ x, tB (byB ik long) = x := ⟨_, rfl⟩
          obtain ⟨B4, hB4⟩ : ∃ x, tB (pc.take at_ ++ byB ik long) = x := ⟨_, rfl⟩
          obtain ⟨B5, hB5⟩ : ∃ x, tB (pc.drop (at_ + long)) = x := ⟨_, rfl⟩
          obtain ⟨B6, hB6⟩ : ∃ x, tB (layB pc at_ (byB ik long)) = x := ⟨_, rfl⟩
          rw [hB1] at r5 s1 s2 z61
          rw [hB2] at s1 s4 z62
          rw [hB3] at s4 z63 HCv
          rw [hB4] at s3 s4 z64
          rw [hB5] at s2 s3 z65
          rw [hB6] at s3
          have S1 := Lib.hid s1
          have S2 := Lib.hid s2
          have S3 := Lib.hid s3
          have S4 := Lib.hid s4
          have Z61 := Lib.hid z61
          have HB6 := Lib.hid hB6
          have HPc := Lib.hid hpc
          obtain ⟨at2, hat2⟩ : ∃ x, at_ + long = x := ⟨_, rfl⟩
          have t2 : IntKind.i64.wrap (at2 : Int) = (at2 : Int) := by rw [IntKind.wrap_i64]; omega
          have t3 : (at_ : Int) + (long : Int) = (at2 : Int) := by omega
          rw [hat2] at S2
          have hat2b : at2 ≤ 480 := by omega
          have hat480 : at_ ≤ 480 := by omega
          have T2' := Lib.hid t2
          have T3' := Lib.hid t3
          have M0 := Lib.hid p0
          have M1 := Lib.hid p1
          clear h5 hb5 hs5 hw5 hla5 HWr hbk5 s1 s2 s3 s4 hB1 hB2 hB3 hB4 hB5 hB6 hpc hpl t2 t3 p0 p1 hat2 z61 HLa3 HLa4 HW3 HB3 HW4 HBi a4 z4
          go_wp2_with fail
          have hS : Fr Nob w5 w5.drew := (Fr.refl _ w5).drew
          refine Rg.begin' (Fr Nob w5) [33] (by kernel_rfl) ?_
          refine Rg.op 0 (some 60) hS (v := ?v0n) (hy := fun wz hwz => ?h0n) (h := ?_)
          case h0n => (go_simp; try with_reducible rfl)
          refine Rg.op 1 (some 61) hS (v := ?v1n) (hy := fun wz hwz => ?h1n) (h := ?_)
          case h1n => (have hpp := Nat.lt_of_lt_of_le z5 hwz.size; go_simp; try with_reducible rfl)
          refine Rg.op 2 (some 62) hS (v := ?v2n) (hy := fun wz hwz => ?h2n) (h := ?_)
          case h2n => (have hpp := Nat.lt_of_lt_of_le z5 hwz.size; go_simp; try with_reducible rfl)
          refine Rg.op 3 (some 63) hS (v := (.slice (some ⟨gn, 0, none⟩) 6 cn)) (hy := fun wz hwz => ?h3n) (h := ?_)
          case h3n => (have cx := (hwz.cell (p := ⟨g, 4, none⟩) z5 (fun h => h)).trans n5; have hpp := Nat.lt_of_lt_of_le z5 hwz.size; go_simp; try with_reducible rfl)
          refine Rg.op 4 (some 64) hS (v := ?v4n) (hy := fun wz hwz => ?h4n) (h := ?_)
          case h4n => (go_simp; try with_reducible rfl)
          refine Rg.op 5 (some 65) hS (v := (.int .i64 k6)) (hy := fun wz hwz => ?h5n) (h := ?_)
          case h5n => (have e0 := M0.out; have e1 := M1.out; go_simp; try with_reducible rfl)
          refine Rg.op 6 (some 66) hS (v := ?v6n) (hy := fun wz hwz => ?h6n) (h := ?_)
          case h6n => (go_simp; try with_reducible rfl)
          refine Rg.op 7 (some 67) hS (v := ?v7n) (hy := fun wz hwz => ?h7n) (h := ?_)
          case h7n => (have hpp := Nat.lt_of_lt_of_le z5 hwz.size; go_simp; try with_reducible rfl)
          refine Rg.op 8 (some 68) hS (v := ?v8n) (hy := fun wz hwz => ?h8n) (h := ?_)
          case h8n => (have hpp := Nat.lt_of_lt_of_le z5 hwz.size; go_simp; try with_reducible rfl)
          refine Rg.op 9 (some 69) hS (v := (.slice (some ⟨gn, 0, none⟩) 6 cn)) (hy := fun wz hwz => ?h9n) (h := ?_)
          case h9n => (have cx := (hwz.cell (p := ⟨g, 4, none⟩) z5 (fun h => h)).trans n5; have hpp := Nat.lt_of_lt_of_le z5 hwz.size; go_simp; try with_reducible rfl)
          refine Rg.op 10 (some 70) hS (v := ?v10n) (hy := fun wz hwz => ?h10n) (h := ?_)
          case h10n => (go_simp; try with_reducible rfl)
          refine Rg.op 11 (some 71) hS (v := (.int .i64 k6)) (hy := fun wz hwz => ?h11n) (h := ?_)
          case h11n => (have e0 := M0.out; have e1 := M1.out; go_simp; try with_reducible rfl)
          refine Rg.op 12 (some 72) hS (v := (.pointer (some ⟨gn, k6, none⟩))) (hy := fun wz hwz => ?h12n) (h := ?_)
          case h12n => (have hp2 := Nat.lt_of_lt_of_le hgn5 hwz.size; have h6 : (k6 : Int) < 6 := (by omega); go_simp; try with_reducible rfl)
          refine Rg.op 13 (some 73) hS (v := (.string B1)) (hy := fun wz hwz => ?h13n) (h := ?_)
          case h13n => (have cx := (hwz.cell (p := ⟨gn, k6, none⟩) hgn5 (fun h => h)).trans r5; have hp2 := Nat.lt_of_lt_of_le hgn5 hwz.size; go_simp; try with_reducible rfl)
          refine Rg.op 14 (some 74) hS (v := ?v14n) (hy := fun wz hwz => ?h14n) (h := ?_)
          case h14n => (go_simp; try with_reducible rfl)
          refine Rg.op 15 (some 75) hS (v := (.string B2)) (hy := fun wz hwz => ?h15n) (h := ?_)
          case h15n => (have e1 := S1.out; have e2 := Z61.out; have e3 : (at_ : Int) ≤ 480 := (by omega); go_simp; try with_reducible rfl)
          refine Rg.op 16 (some 76) hS (v := ?v16n) (hy := fun wz hwz => ?h16n) (h := ?_)
          case h16n => (go_simp; try with_reducible rfl)
          refine Rg.op 17 (some 77) hS (v := (.string B3')) (hy := fun wz hwz => ?h17n) (h := ?_)
          case h17n => (have hcv := HCv.out wz hwz; go_simp; try with_reducible rfl)
          refine Rg.op 18 (some 78) hS (v := (.string B4)) (hy := fun wz hwz => ?h18n) (h := ?_)
          case h18n => (have e1 := S4.out; have e2 : B2.size + B3'.size ≤ 9223372036854775807 := (by omega); go_simp; try with_reducible rfl)
          refine Rg.op 19 (some 79) hS (v := ?v19n) (hy := fun wz hwz => ?h19n) (h := ?_)
          case h19n => (go_simp; try with_reducible rfl)
          refine Rg.op 20 (some 80) hS (v := ?v20n) (hy := fun wz hwz => ?h20n) (h := ?_)
          case h20n => (have hpp := Nat.lt_of_lt_of_le z5 hwz.size; go_simp; try with_reducible rfl)
          refine Rg.op 21 (some 81) hS (v := ?v21n) (hy := fun wz hwz => ?h21n) (h := ?_)
          case h21n => (have hpp := Nat.lt_of_lt_of_le z5 hwz.size; go_simp; try with_reducible rfl)
          refine Rg.op 22 (some 82) hS (v := (.slice (some ⟨gn, 0, none⟩) 6 cn)) (hy := fun wz hwz => ?h22n) (h := ?_)
          case h22n => (have cx := (hwz.cell (p := ⟨g, 4, none⟩) z5 (fun h => h)).trans n5; have hpp := Nat.lt_of_lt_of_le z5 hwz.size; go_simp; try with_reducible rfl)
          refine Rg.op 23 (some 83) hS (v := ?v23n) (hy := fun wz hwz => ?h23n) (h := ?_)
          case h23n => (go_simp; try with_reducible rfl)
          refine Rg.op 24 (some 84) hS (v := (.int .i64 k6)) (hy := fun wz hwz => ?h24n) (h := ?_)
          case h24n => (have e0 := M0.out; have e1 := M1.out; go_simp; try with_reducible rfl)
          refine Rg.op 25 (some 85) hS (v := (.pointer (some ⟨gn, k6, none⟩))) (hy := fun wz hwz => ?h25n) (h := ?_)
          case h25n => (have hp2 := Nat.lt_of_lt_of_le hgn5 hwz.size; have h6 : (k6 : Int) < 6 := (by omega); go_simp; try with_reducible rfl)
          refine Rg.op 26 (some 86) hS (v := (.string B1)) (hy := fun wz hwz => ?h26n) (h := ?_)
          case h26n => (have cx := (hwz.cell (p := ⟨gn, k6, none⟩) hgn5 (fun h => h)).trans r5; have hp2 := Nat.lt_of_lt_of_le hgn5 hwz.size; go_simp; try with_reducible rfl)
          refine Rg.op 27 (some 87) hS (v := ?v27n) (hy := fun wz hwz => ?h27n) (h := ?_)
          case h27n => (go_simp; try with_reducible rfl)
          refine Rg.op 28 (some 88) hS (v := ?v28n) (hy := fun wz hwz => ?h28n) (h := ?_)
          case h28n => (go_simp; try with_reducible rfl)
          refine Rg.op 29 (some 89) hS (v := (.int .i64 at2)) (hy := fun wz hwz => ?h29n) (h := ?_)
          case h29n => (have e0 := T2'.out; have e1 := T3'.out; go_simp; try with_reducible rfl)
          refine Rg.op 30 (some 90) hS (v := (.string B5)) (hy := fun wz hwz => ?h30n) (h := ?_)
          case h30n => (have e1 := S2.out; have e2 := Z61.out; have e3 : (at2 : Int) ≤ 480 := (by omega); go_simp; try with_reducible rfl)
          refine Rg.op 31 (some 91) hS (v := (.string B6)) (hy := fun wz hwz => ?h31n) (h := ?_)
          case h31n => (have e1 := S3.out; have e2 : B4.size + B5.size ≤ 9223372036854775807 := (by omega); go_simp; try with_reducible rfl)
          refine Rg.op 32 (some 92) hS (v := (.pointer (some ⟨gn, k6, none⟩))) (hy := fun wz hwz => ?h32n) (h := ?_)
          case h32n => (have hp2 := Nat.lt_of_lt_of_le hgn5 hwz.size; have h6 : (k6 : Int) < 6 := (by omega); go_simp; try with_reducible rfl)
          refine Rg.store 33 (w' := ?w33n) (hrun := ?h33n) (hS := (fun h => absurd (by decide) h)) (h := ?_)
          case h33n => (have cc := r5; have ff := hgr5; have hh := hgn5; go_simp; try with_reducible rfl)
          refine Rg.done _ (h := ?_)
          have hw6 := (HW5.out.setNow k6 (layB pc at_ (byB ik long)) hk6b).new (Fr.refl Nob _).drew
          have hN6 : setP C3 k6 (layB pc at_ (byB ik long)) = layP C3 k6 at_ (byB ik long) := by rw [← HPc.out]; exact setP_lay _ _ _ _
          have hS6 : tS (layB pc at_ (byB ik long)) = .string B6 := by rw [tS_eq, HB6.out]
          rw [hN6, hS6] at hw6
          have hf56 : Fr (fun b => b = gn) w5 (w5.setCell ⟨gn, k6, none⟩ (.string B6)).drew := ((Fr.refl (fun b => b = gn) w5).setCell (p := ⟨gn, k6, none⟩) (.inr rfl) _).drew
          have hla6 := HLa5.out.step (A' := AllG RS5 RO5 U5 (.slice (some ⟨gn, 0, none⟩) 6 cn) g) hf56 (fun b e => .inl (.inr (by rw [show b = gn from e]; rfl))) (fun b hb => .inl hb)
          obtain ⟨w6, hw6e⟩ : ∃ W, (w5.setCell ⟨gn, k6, none⟩ (.string B6)).drew = W := ⟨_, rfl⟩
          rw [hw6e] at hw6 hla6 ⊢
          have hin : RmIn w w6 g s d (M + 8 + 3 * (k + 1)) (K + (k + 1)) cs (k + 1) := ⟨RS5, RO5, U5, T5, _, B3, un3, _, lv3, hw6, HB5.out, hla6⟩
          have HIn := Lib.hid hin
          clear hw6 hla6 hin hf56 hN6 hS6 hw6e HW5 HLa5 HB5 hS r5 hgr5 hgn5 n5 a5 z5 HCv S1 S2 S3 S4 Z61 HB6 T2' T3' M0 M1 HPc HLen HBl
          go_wp2
          go_roundw
          case rel => exact ⟨k + 1, by omega, by go_num, HIn⟩
          case measure => simp [intOf]; omega
        · obtain rfl : k = each := by omega
          obtain ⟨RS3, RO3, U3, T3, C3, B3, un3, nv3, lv3, hw3, hb3, hla3⟩ := hX.out
          obtain ⟨gn, cn, rfl, hcn, hgn⟩ := hw3.form
          have HW3 := Lib.hid hw3
          have HB3 := Lib.hid hb3
          have HLa3 := Lib.hid hla3
          have HCk := HCs.out k (by omega)
          have a3 := hw3.cs
          have z3 := hw3.lt
          clear hX hw3 hb3 hla3
          obtain ⟨x15, hx15⟩ : ∃ x : Nat, i % 16 = x := ⟨_, rfl⟩
          have hxb : x15 < 16 := by omega
          have hx1 : bits .and .i64 (i : Int) 15 = (x15 : Int) := by rw [i64_and15]; omega
          have hx2 : (x15 : Int).toNat = x15 := Int.toNat_natCast _
          obtain ⟨bt, hbt, hbt1⟩ := andK_nat (ev / 2 ^ x15) 1 (by omega)
          have hbt : bits .and .i64 (ev / 2 ^ x15) 1 = (bt : Int) := hbt
          obtain ⟨i6, hi6⟩ : ∃ x : Nat, i % 6 = x := ⟨_, rfl⟩
          have hi6b : i6 < 6 := by omega
          have p1 : (i : Int).tmod 6 = (i6 : Int) := by rw [Int.tmod_eq_emod_of_nonneg (by omega)]; omega
          have p0 : IntKind.i64.wrap ((i : Int).tmod 6) = (i6 : Int) := by rw [p1, IntKind.wrap_i64]; omega
          have HEv := Lib.hid (Evict_tx HW3.out.tx i6 hi6b (by omega))
          clear hx15 hi6
          go_upto_region 20 with fail
          go_cut [108] (fun s108 wx => s108 = .bool false ∧ Hid (∃ M', M' ≤ M + 8 + 3 * k + 1 ∧ RmIn w wx g s d M' (K + k) cs k))
          case first =>
            rcases (by omega : bt = 0 ∨ bt = 1) with rfl | rfl
            · go_wp2_with fail
              go_meet
              exact ⟨rfl, _, by omega, RS3, RO3, U3, T3, C3, B3, un3, _, lv3, HW3.out, HB3.out, HLa3.out⟩
            · go_wp2_with fail
              refine HEv.out.mono ?_
              rintro e w4 ⟨rfl, U4, h4, hs4⟩
              have hw4 := HW3.out.step h4 hs4 rfl
              have hla4 := HLa3.out.subs hs4
              have hnew : ∃ M', M' ≤ M + 8 + 3 * k + 1 ∧ RmIn w w4 g s d M' (K + k) cs k := ⟨_, Nat.le_refl _, RS3, RO3, U4, T3, C3, B3, un3, _, lv3, hw4, HB3.out, hla4⟩
              have HNew := Lib.hid hnew
              clear h4 hs4 hw4 hla4 hnew
              go_wp2_with fail
              go_meet
              exact ⟨rfl, HNew⟩
          case rest =>
            obtain ⟨rfl, hX⟩ := hcut
            obtain ⟨M2, hM2, RS4, RO4, U4, T4, C4, B4, un4, nv4, lv4, hw4, hb4, hla4⟩ := hX.out
            obtain ⟨gn', cn', rfl, hcn', hgn'⟩ := hw4.form
            obtain ⟨gl, cl, rfl, hcl, hgl⟩ := hla4.form
            have HW4 := Lib.hid hw4
            have HB4 := Lib.hid hb4
            have HLa4 := Lib.hid hla4
            have a4 := hw4.cs
            have z4 := hw4.lt
            have hq0 : (0 : Int) ≤ 11143 - ((cs * k : Nat) : Int) := by omega
            clear hX hw4 hb4 hla4 HW3 HB3 HLa3 HEv a3 z3
            rcases (by omega : i % 2 = 0 ∨ i % 2 = 1) with hp | hp
            · have o1 : (i : Int).tmod 2 = 0 := by rw [Int.tmod_eq_emod_of_nonneg (by omega)]; omega
              have HCm := Lib.hid (Commit_tb HW4.out.tx HB4.out hq0 (by omega))
              clear hp
              go_wp2_with fail
              refine HCm.out.mono ?_
              rintro e w5 ⟨rfl, RS5, U5, T5, h5, hb5, hs5⟩
              have hw5 := HW4.out.step h5 hs5 (hb5.d.trans HB4.out.d.symm)
              have HW5 := Lib.hid hw5
              have HB5 := Lib.hid hb5
              clear h5 hb5 hs5 hw5 HCm a4 z4 hgn'
              have hgnp : gn' < w5.heap.size := own_lt (show w5.ownsRow _ 9 1 (.slice (some ⟨gn', 0, none⟩) 6 cn') 6 _ from HW5.out.now) (g := gn') rfl
              have hfep : Fr Nob w5 (w5.alloc (.cells #[] 9)) := (Fr.refl _ w5).alloc _
              have hoep : (w5.alloc (.cells #[] 9)).ownsRow w.heap.size 9 1 (.slice (some ⟨w5.heap.size, 0, none⟩) 0 0) 0 [] := own_base (World.ownsRow_made w5 #[] 0 (Nat.le_refl _) (by decide) rfl) (fun b hb => by
                have e : w5.heap.size = b := by simpa [Value.ownBlock] using hb
                have := HW5.out.fr.size
                omega)
              have HEp := Lib.hid hoep
              have hnrp := HW5.out.now
              have HNcp : Hid (∀ j u, ((List.range 6).map fun i => tS (C4 i))[j]? = some u → (w5.alloc (.cells #[] 9)).cell? ((⟨gn', 0, none⟩ : Addr).add j) = some u) := fun j u hu => by
                have hj : j < 6 := by have := (List.getElem?_eq_some_iff.1 hu).1; simpa using this
                rw [Addr.add_mid, Nat.zero_add, hfep.cell (p := ⟨gn', j, none⟩) hgnp (fun h => h), Row6.at_ hnrp j hj]
                rw [List.getElem?_map, List.getElem?_range hj] at hu
                exact hu
              obtain ⟨slp, hslp⟩ : ∃ l, ((List.range 6).map fun i => tS (C4 i)) = l := ⟨_, rfl⟩
              have hsllp := row6_list_len (C4)
              have hsl1p := row6_one (C4)
              rw [hslp] at HNcp hsllp hsl1p
              have HSlp := Lib.hid hslp
              have HSllp := Lib.hid hsllp
              have HSl1p := Lib.hid hsl1p
              have HFep := Lib.hid hfep
              have hzcp := HW5.out.fr.size
              have np := HW5.out.cn
              have zcp := HW5.out.lt
              have HFzp : Hid (∀ W', Fr Nob w5 W' → g < W'.heap.size ∧ W'.frozen? ⟨g, 5, none⟩ = false) := fun W' hf => ⟨Nat.lt_of_lt_of_le HW5.out.lt hf.size, (hf.frozen (p := ⟨g, 5, none⟩) HW5.out.lt (fun h => h)).trans (HW5.out.wld.frozen 5)⟩
              have HFdp : Hid (∀ W', Fr Nob w5 W' → ∃ v, W'.cell? ⟨g, 5, none⟩ = some v) := fun W' hf => ⟨_, (HW5.out.wld.fr hf (fun h => h)).cell 5⟩
              clear hfep hoep hnrp hslp hsllp hsl1p
              go_wp2_with (at_builtin; go_must (refine wpList_append_own_at _ rfl (.tmp 119) (.tmp 123) 34 rfl w.heap.size 9 i0 (.string ⟨#[]⟩) 1 16 Tryz.underlying34 hi0 iz0 iz1 iz2 rfl (by decide) (.slice (some ⟨w5.heap.size, 0, none⟩) 0 0) 0 [] rfl HEp.out ⟨gn', 0, none⟩ 6 cn' slp rfl HSllp.out HNcp.out HSl1p.out (by unfold maxLen; omega) (by omega) (by have := HFep.out.size; omega) ?_); intro vc wpa hown hgr hnil hat; obtain ⟨gap, cap, hvc, _, hgz⟩ := hown.form (by omega); subst hvc; have hgap : w5.heap.size ≤ gap := (by rcases hat with e | e; (have e2 : gap = w5.heap.size := (by simpa [Value.ownBlock] using e); omega); (have e2 : gap = (w5.alloc (.cells #[] 9)).heap.size := (by simpa [Value.ownBlock] using e); have := HFep.out.size; omega)); have HFcp : Hid (Fr Nob w5 wpa) := HFep.out.grown hgr (fun r hr => .inl (by have e2 : w5.heap.size = r := (by simpa [Value.ownBlock] using hr); omega)); have HRowp : Hid (Row6 wpa w.heap.size (.slice (some ⟨gap, 0, none⟩) 6 cap) (C4)) := (by unfold Row6; rw [Hid, HSlp.out]; exact hown); obtain ⟨zgp, fgp⟩ := HFzp.out _ HFcp.out; obtain ⟨vgp, cgp⟩ := HFdp.out _ HFcp.out; clear hown hgr hnil hat hgz)
              have hnew : RmOut w (wpa.setCell ⟨g, 5, none⟩ (.slice (some ⟨gap, 0, none⟩) 6 cap)) g s d M2 (K + k + 1) := by
                have hw6 := (HW5.out.new HFcp.out).setLast (.slice (some ⟨gap, 0, none⟩) 6 cap)
                have hf : Fr (fun b => b = g) wpa (wpa.setCell ⟨g, 5, none⟩ (.slice (some ⟨gap, 0, none⟩) 6 cap)) := (Fr.refl (fun b => b = g) wpa).setCell (p := ⟨g, 5, none⟩) (.inr rfl) _
                refine ⟨RS5, RO4, U5, T5, C4, un4, _, _, hw6, { HB5.out with room := by have := HB5.out.room; omega }, LastRow.step (A := AllG RS5 RO4 U5 (.slice (some ⟨gn', 0, none⟩) 6 cn') g) ⟨HRowp.out, fun b hb e => ?_⟩ hf (fun b e => .inr e) (fun b hb => .inl hb)⟩
                have e2 : gap = b := by simpa [Value.ownBlock] using hb
                have := HW5.out.allg_lt e
                omega
              have HNew := Lib.hid hnew
              clear hnew
              go_roundw
              case rel => exact ⟨i + 1, M2, K + k + 1, by omega, by go_num, by omega, by omega, HNew⟩
              case measure => simp [intOf]; omega
            · have o1 : (i : Int).tmod 2 = 1 := by rw [Int.tmod_eq_emod_of_nonneg (by omega)]; omega
              have HCm := Lib.hid (Abort_tb HW4.out.tx HB4.out hq0 (by omega) (by omega))
              clear hp
              go_wp2_with fail
              refine HCm.out.mono ?_
              rintro e w5 ⟨rfl, RS5, U5, T5, h5, hb5, hs5⟩
              have hw5 := HW4.out.step h5 hs5 (hb5.d.trans HB4.out.d.symm)
              have hla5 := HLa4.out.subs hs5
              have HW5 := Lib.hid hw5
              have HB5 := Lib.hid hb5
              have HLa5 := Lib.hid hla5
              clear h5 hb5 hs5 hw5 hla5 HCm a4 z4 hgl
              have hgnq : gl < w5.heap.size := own_lt (show w5.ownsRow _ 9 1 (.slice (some ⟨gl, 0, none⟩) 6 cl) 6 _ from HLa5.out.1) (g := gl) rfl
              have hfeq : Fr Nob w5 (w5.alloc (.cells #[] 9)) := (Fr.refl _ w5).alloc _
              have hoeq : (w5.alloc (.cells #[] 9)).ownsRow w.heap.size 9 1 (.slice (some ⟨w5.heap.size, 0, none⟩) 0 0) 0 [] := own_base (World.ownsRow_made w5 #[] 0 (Nat.le_refl _) (by decide) rfl) (fun b hb => by
                have e : w5.heap.size = b := by simpa [Value.ownBlock] using hb
                have := HW5.out.fr.size
                omega)
              have HEq := Lib.hid hoeq
              have hnrq := HLa5.out.1
              have HNcq : Hid (∀ j u, ((List.range 6).map fun i => tS (B4 i))[j]? = some u → (w5.alloc (.cells #[] 9)).cell? ((⟨gl, 0, none⟩ : Addr).add j) = some u) := fun j u hu => by
                have hj : j < 6 := by have := (List.getElem?_eq_some_iff.1 hu).1; simpa using this
                rw [Addr.add_mid, Nat.zero_add, hfeq.cell (p := ⟨gl, j, none⟩) hgnq (fun h => h), Row6.at_ hnrq j hj]
                rw [List.getElem?_map, List.getElem?_range hj] at hu
                exact hu
              obtain ⟨slq, hslq⟩ : ∃ l, ((List.range 6).map fun i => tS (B4 i)) = l := ⟨_, rfl⟩
              have hsllq := row6_list_len (B4)
              have hsl1q := row6_one (B4)
              rw [hslq] at HNcq hsllq hsl1q
              have HSlq := Lib.hid hslq
              have HSllq := Lib.hid hsllq
              have HSl1q := Lib.hid hsl1q
              have HFeq := Lib.hid hfeq
              have hzcq := HW5.out.fr.size
              have nq := HW5.out.cl
              have zcq := HW5.out.lt
              have HFzq : Hid (∀ W', Fr Nob w5 W' → g < W'.heap.size ∧ W'.frozen? ⟨g, 4, none⟩ = false) := fun W' hf => ⟨Nat.lt_of_lt_of_le HW5.out.lt hf.size, (hf.frozen (p := ⟨g, 4, none⟩) HW5.out.lt (fun h => h)).trans (HW5.out.wld.frozen 4)⟩
              have HFdq : Hid (∀ W', Fr Nob w5 W' → ∃ v, W'.cell? ⟨g, 4, none⟩ = some v) := fun W' hf => ⟨_, (HW5.out.wld.fr hf (fun h => h)).cell 4⟩
              clear hfeq hoeq hnrq hslq hsllq hsl1q
              go_wp2_with (at_builtin; go_must (refine wpList_append_own_at _ rfl (.tmp 134) (.tmp 138) 34 rfl w.heap.size 9 i0 (.string ⟨#[]⟩) 1 16 Tryz.underlying34 hi0 iz0 iz1 iz2 rfl (by decide) (.slice (some ⟨w5.heap.size, 0, none⟩) 0 0) 0 [] rfl HEq.out ⟨gl, 0, none⟩ 6 cl slq rfl HSllq.out HNcq.out HSl1q.out (by unfold maxLen; omega) (by omega) (by have := HFeq.out.size; omega) ?_); intro vc wqa hown hgr hnil hat; obtain ⟨gaq, caq, hvc, _, hgz⟩ := hown.form (by omega); subst hvc; have hgaq : w5.heap.size ≤ gaq := (by rcases hat with e | e; (have e2 : gaq = w5.heap.size := (by simpa [Value.ownBlock] using e); omega); (have e2 : gaq = (w5.alloc (.cells #[] 9)).heap.size := (by simpa [Value.ownBlock] using e); have := HFeq.out.size; omega)); have HFcq : Hid (Fr Nob w5 wqa) := HFeq.out.grown hgr (fun r hr => .inl (by have e2 : w5.heap.size = r := (by simpa [Value.ownBlock] using hr); omega)); have HRowq : Hid (Row6 wqa w.heap.size (.slice (some ⟨gaq, 0, none⟩) 6 caq) (B4)) := (by unfold Row6; rw [Hid, HSlq.out]; exact hown); obtain ⟨zgq, fgq⟩ := HFzq.out _ HFcq.out; obtain ⟨vgq, cgq⟩ := HFdq.out _ HFcq.out; clear hown hgr hnil hat hgz)
              have hnew : RmOut w (wqa.setCell ⟨g, 4, none⟩ (.slice (some ⟨gaq, 0, none⟩) 6 caq)) g s d (M2 + 2 * k) (K + k + k + 1) := by
                have hfr : ∀ b, (Value.slice (some ⟨gaq, 0, none⟩) 6 caq).ownBlock = some b → w5.heap.size ≤ b := fun b hb => by
                  have e2 : gaq = b := by simpa [Value.ownBlock] using hb
                  omega
                have hw6 := (HW5.out.new HFcq.out).setNowRow (.slice (some ⟨gaq, 0, none⟩) 6 caq) B4 HRowq.out (fun b hb e => by
                  have := HW5.out.tx.all3lt e
                  have := hfr b hb
                  omega)
                have hf : Fr (fun b => b = g) w5 (wqa.setCell ⟨g, 4, none⟩ (.slice (some ⟨gaq, 0, none⟩) 6 caq)) := (HFcq.out.mono (G := fun b => b = g) (fun _ _ h => h.elim)).setCell (p := ⟨g, 4, none⟩) (.inr rfl) _
                refine ⟨RS5, RO4, U5, T5, B4, un4 + k, _, _, hw6, { HB5.out with room := by have := HB5.out.room; omega }, HLa5.out.step hf (fun b e => .inr e) (fun b hb => ?_)⟩
                rcases hb with (hb | hb) | hb
                · exact .inl (.inl (.inl hb))
                · exact .inr (hfr b hb)
                · exact .inl (.inr hb)
              have HNew := Lib.hid hnew
              clear hnew
              go_roundw
              case rel => exact ⟨i + 1, M2 + 2 * k, K + k + k + 1, by omega, by go_num, by omega, by omega, HNew⟩
              case measure => simp [intOf]; omega
    · obtain rfl : i = n := by omega
      obtain ⟨gl, cl, rfl, hcl, hgl⟩ := hla1.form
      have l1 := hw1.cl
      have hng := hw1.ng
      have HTi := Lib.hid hti1
      have hngl : ¬ All3 RS1 RO1 U1 gl := fun e => hla1.2 gl rfl (.inl (.inl e))
      clear hX hw1 hti1 hla1
      go_wp2_with fail
      have hS : Fr (All3 RS1 RO1 U1) wr wr.drew := (Fr.refl _ wr).drew
      have hSn : Fr Nob wr wr.drew := (Fr.refl _ wr).drew
      refine Rg.begin (Fr (All3 RS1 RO1 U1) wr) [] (by kernel_rfl) ?_
      refine Rg.op 0 (some 142) hS (v := ?v0d) (hy := fun wz hwz => ?h0d) (h := ?_)
      case h0d => (go_simp; try with_reducible rfl)
      refine Rg.op 1 (some 143) hS (v := ?v1d) (hy := fun wz hwz => ?h1d) (h := ?_)
      case h1d => (have hpp := Nat.lt_of_lt_of_le z1 hwz.size; go_simp; try with_reducible rfl)
      refine Rg.op 2 (some 144) hS (v := ?v2d) (hy := fun wz hwz => ?h2d) (h := ?_)
      case h2d => (have hpp := Nat.lt_of_lt_of_le z1 hwz.size; go_simp; try with_reducible rfl)
      refine Rg.op 3 (some 145) hS (v := (.pointer (some ⟨s, 0, none⟩))) (hy := fun wz hwz => ?h3d) (h := ?_)
      case h3d => (have cx := (hwz.cell (p := ⟨g, 1, none⟩) z1 hng).trans a1; have hpp := Nat.lt_of_lt_of_le z1 hwz.size; go_simp; try with_reducible rfl)
      refine Rg.op 4 (some 146) hS (v := ?v4d) (hy := fun wz hwz => ?h4d) (h := ?_)
      case h4d => (go_simp; try with_reducible rfl)
      refine Rg.op 5 (some 147) hS (v := ?v5d) (hy := fun wz hwz => ?h5d) (h := ?_)
      case h5d => (have hpp := Nat.lt_of_lt_of_le z1 hwz.size; go_simp; try with_reducible rfl)
      refine Rg.op 6 (some 148) hS (v := ?v6d) (hy := fun wz hwz => ?h6d) (h := ?_)
      case h6d => (have hpp := Nat.lt_of_lt_of_le z1 hwz.size; go_simp; try with_reducible rfl)
      refine Rg.op 7 (some 149) hS (v := (.slice (some ⟨gl, 0, none⟩) 6 cl)) (hy := fun wz hwz => ?h7d) (h := ?_)
      case h7d => (have cx := (hwz.cell (p := ⟨g, 5, none⟩) z1 hng).trans l1; have hpp := Nat.lt_of_lt_of_le z1 hwz.size; go_simp; try with_reducible rfl)
      have hst := Stands_tx (HW1.out.tx.new hSn) gl cl (fun j hj => by rw [congrFun HTi.out.pages j]; exact Row6.at_ (HLa1.out.new hSn).1 j hj) (fun e => hngl (.inl e)) (fun e => hngl (.inr (.inr e))) (by omega)
      have HSt := Lib.hid hst
      clear hst
      refine Rg.call 8 (some 150) (hrun := ?h8d) (hcall := HSt.out) (h := ?_)
      case h8d => (go_simp)
      rintro e w2 ⟨rfl, U2, h2, hs2⟩
      have hS2 : Fr (All3 RS1 RO1 U1) wr w2 := hS.trans hs2.fr3
      clear h2 hs2 HSt
      refine ⟨_, ?a8d, rfl, ?b8d, (fun _ => hS2), ?_⟩
      case b8d => (simp only [Act.put, List.setIfInBounds_toArray, List.set_cons_zero, List.set_cons_succ]; rfl)
      refine Rg.op 9 (some 151) hS2 (v := ?v9d) (hy := fun wz hwz => ?h9d) (h := ?_)
      case h9d => (go_simp; try with_reducible rfl)
      refine Rg.call 10 (some 152) (hrun := ?h10d) (hcall := HAw.out _) (h := ?_)
      case h10d => (go_simp)
      rintro e w3 ⟨rfl, hf3⟩
      have hS3 : Fr (All3 RS1 RO1 U1) wr w3 := hS2.trans (hf3.mono (fun _ _ h => h.elim))
      clear hf3
      refine ⟨_, ?a10d, rfl, ?b10d, (fun _ => hS3), ?_⟩
      case b10d => (simp only [Act.put, List.setIfInBounds_toArray, List.set_cons_zero, List.set_cons_succ]; rfl)
      refine Rg.op 11 (some 153) hS3 (v := ?v11d) (hy := fun wz hwz => ?h11d) (h := ?_)
      case h11d => (go_simp; try with_reducible rfl)
      refine Rg.op 12 (some 6) hS3 (v := ?v12d) (hy := fun wz hwz => ?h12d) (h := ?_)
      case h12d => (go_simp; try with_reducible rfl)
      refine Rg.done _ (h := ?_)
      go_wp2
      go_ret
      exact ⟨rfl, HW1.out.fr.step hS3 (fun j hj e => by have := HW1.out.hi j e; omega)⟩
end Go.Proofs.YtfapklpcgcgahaaGreatDoor
