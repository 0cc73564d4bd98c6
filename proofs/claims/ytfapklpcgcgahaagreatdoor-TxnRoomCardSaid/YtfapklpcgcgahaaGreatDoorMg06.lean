/-
  Wal4, WalHead, in one text.
-/
import Derived.Test.YtfapklpcgcgahaaGreatDoorMg04
import Derived.Test.YtfapklpcgcgahaaGreatDoorMg05
/-
  The bytes of a log's head.
-/
namespace Go.Proofs.YtfapklpcgcgahaaGreatDoor
set_option linter.unusedSimpArgs false
set_option linter.unusedVariables false
open Go.RowKit

def begM : List UInt8 := (zeros 64).set 0 76
def begT (turn : Nat) : List UInt8 := splice begM 8 (putB 8 turn)
def begL (turn lsn : Nat) : List UInt8 := splice (begT turn) 16 (putB 8 lsn)
def begPre (turn lsn at_ : Nat) : List UInt8 := splice (begL turn lsn) 24 (putB 8 at_)
def begB (turn lsn at_ : Nat) : List UInt8 := splice (begPre turn lsn at_) 4 (putB 4 (crcN (begPre turn lsn at_)))
theorem begM_length : begM.length = 64 := by simp [begM, zeros]
theorem begT_length (a : Nat) : (begT a).length = 64 := by unfold begT; rw [length_splice _ _ _ (by rw [putB_length, begM_length]; omega), begM_length]
theorem begL_length (a b : Nat) : (begL a b).length = 64 := by unfold begL; rw [length_splice _ _ _ (by rw [putB_length, begT_length]; omega), begT_length]
theorem begPre_length (a b c : Nat) : (begPre a b c).length = 64 := by unfold begPre; rw [length_splice _ _ _ (by rw [putB_length, begL_length]; omega), begL_length]
theorem begB_length (a b c : Nat) : (begB a b c).length = 64 := by unfold begB; rw [length_splice _ _ _ (by rw [putB_length, begPre_length]; omega), begPre_length]

set_option maxHeartbeats 800000 in
set_option maxRecDepth 100000 in
theorem begin_any (turn lsn at_ : Nat) (w : World) (h1 : turn < 18446744073709551616) (h2 : lsn < 18446744073709551616) (h3 : at_ < 18446744073709551616) :
    Calls Tryz.prog 102 #[.int .u64 turn, .int .u64 lsn, .int .u64 at_] w fun e w' => e = .returned (.slice (some ⟨w.heap.size, 0, none⟩) 64 64) ∧ Blk w' w.heap.size 5 (bts (begB turn lsn at_)).toArray ∧ Fr Nob w w' := by
  have hmk := make64
  have hz0 : zeros64.setIfInBounds 0 (.int .u8 76) = (bts begM).toArray := by
    unfold begM
    rw [← bts_set, show (bts (zeros 64)).toArray = zeros64 from zeros64_eq.symm]; rfl
  have HB0 : Hid (Blk (w.alloc (.cells (zeros64.setIfInBounds 0 (.int .u8 76)) 5)) w.heap.size 5 (bts begM).toArray) := by
    show Blk _ _ _ _
    rw [hz0]; exact Blk.new w _ _
  have HF0 : Hid (Fr Nob w (w.alloc (.cells (zeros64.setIfInBounds 0 (.int .u8 76)) 5))) := (Fr.refl _ w).alloc _
  clear hz0
  have c00 : zeros64[0]? = some (.int .u8 0) := by rw [zeros64_eq]; rfl
  go_enter Tryz.func102, Tryz.ntmps102
  go_wp2_with fail
  refine (put_any w.heap.size 8 8 56 begM turn _ HB0.out (by rw [begM_length]; omega) h1 (by omega)).mono ?_
  rintro e w1 ⟨rfl, hb1, hf1⟩
  have HB1 : Hid (Blk w1 w.heap.size 5 (bts (begT turn)).toArray) := hb1
  have HF1 : Hid (Fr Nob w w1) := HF0.out.step hf1 (fun i hi e => by omega)
  clear hb1 hf1 c00
  go_wp2_with fail
  refine (put_any w.heap.size 16 8 48 (begT turn) lsn _ HB1.out (by rw [begT_length]; omega) h2 (by omega)).mono ?_
  rintro e w2 ⟨rfl, hb2, hf2⟩
  have HB2 : Hid (Blk w2 w.heap.size 5 (bts (begL turn lsn)).toArray) := hb2
  have HF2 : Hid (Fr Nob w w2) := HF1.out.step hf2 (fun i hi e => by omega)
  clear hb2 hf2
  go_wp2_with fail
  refine (put_any w.heap.size 24 8 40 (begL turn lsn) at_ _ HB2.out (by rw [begL_length]; omega) h3 (by omega)).mono ?_
  rintro e w4 ⟨rfl, hb4, hf4⟩
  have HB4 : Hid (Blk w4 w.heap.size 5 (bts (begPre turn lsn at_)).toArray) := hb4
  have HF4 : Hid (Fr Nob w w4) := HF2.out.step hf4 (fun i hi e => by omega)
  have HL4 := Lib.hid (begPre_length turn lsn at_)
  clear hb4 hf4 HB0 HF0 HB1 HF1 HB2 HF2
  obtain ⟨g, hg⟩ : ∃ g, w.heap.size = g := ⟨_, rfl⟩
  have HG : Hid (w.heap.size ≤ g) := Nat.le_of_eq hg
  have HGe := Lib.hid hg
  rw [hg] at HB4 ⊢
  clear hg
  have hcr := crcN_lt (begPre turn lsn at_)
  have HQ : Hid (splice (begPre turn lsn at_) 4 (putB 4 (crcN (begPre turn lsn at_))) = begB turn lsn at_) := rfl
  generalize begPre turn lsn at_ = t at *
  go_wp2_with fail
  refine wp_region_quietly (fun W => Fr Nob w W) (by kernel_rfl) ?_
  have hS : Fr Nob w w4.drew := HF4.out.drew
  refine wpAnyH_op (i := 0) (some 23) (v := ?v0) (a' := ?a0) rfl rfl (by kernel_rfl) (by kernel_rfl) (by kernel_rfl) (fun _ _ _ h => h) rfl (fun wz hwz => ?h0) ?b0 hS ?_
  case h0 => (go_simp; try with_reducible rfl)
  case b0 => (simp only [Act.put, List.setIfInBounds_toArray, List.set_cons_zero, List.set_cons_succ]; rfl)
  refine wpAnyH_op (i := 1) (some 24) (v := ?v1) (a' := ?a1) rfl rfl (by kernel_rfl) (by kernel_rfl) (by kernel_rfl) (fun _ _ _ h => h) rfl (fun wz hwz => ?h1) ?b1 hS ?_
  case h1 => (go_simp; try with_reducible rfl)
  case b1 => (simp only [Act.put, List.setIfInBounds_toArray, List.set_cons_zero, List.set_cons_succ]; rfl)
  refine wpAnyH_op (i := 2) (some 25) (v := ?v2) (a' := ?a2) rfl rfl (by kernel_rfl) (by kernel_rfl) (by kernel_rfl) (fun _ _ _ h => h) rfl (fun wz hwz => ?h2) ?b2 hS ?_
  case h2 => (go_simp; try with_reducible rfl)
  case b2 => (simp only [Act.put, List.setIfInBounds_toArray, List.set_cons_zero, List.set_cons_succ]; rfl)
  refine wpAnyH_call (i := 3) rfl (by kernel_rfl) rfl ?run3 (crc64 HB4.out.drew HL4.out) ?_
  case run3 => go_simp
  rintro e w5 ⟨rfl, hf5⟩
  have hS5 : Fr Nob w w5 := hS.trans hf5
  have HB5 : Hid (Blk w5 g 5 (bts t).toArray) := HB4.out.drew.fr hf5 (fun h => h)
  clear hf5
  refine ⟨_, rfl, hS5, ?_⟩
  refine wpAnyH_at (some 26) (a' := ?a3) rfl ?b3 ?_
  case b3 => (simp only [Act.put, List.setIfInBounds_toArray, List.set_cons_zero, List.set_cons_succ]; rfl)
  refine wpAnyH_op (i := 4) (some 27) (v := (.int .u64 (crcN t : Nat))) (a' := ?a4) rfl rfl (by kernel_rfl) (by kernel_rfl) (by kernel_rfl) (fun _ _ _ h => h) rfl (fun wz hwz => ?h4) ?b4 hS5 ?_
  case h4 => (have hcr2 := wrap_nat (n := crcN t) (by omega); go_simp; try with_reducible rfl)
  case b4 => (simp only [Act.put, List.setIfInBounds_toArray, List.set_cons_zero, List.set_cons_succ]; rfl)
  refine wpAnyH_call (i := 5) rfl (by kernel_rfl) rfl ?run5 (put_any g 4 4 60 t (crcN t) w5 HB5.out (by rw [HL4.out]; omega) (by omega) (by omega)) ?_
  case run5 => go_simp
  rintro e w6 ⟨rfl, hb6, hf6⟩
  have hS6 : Fr Nob w w6 := hS5.step hf6 (fun i hi e => by have := HG.out; omega)
  rw [HQ.out] at hb6
  have HB6 := Lib.hid hb6
  clear hb6 hf6
  refine ⟨_, rfl, hS6, ?_⟩
  refine wpAnyH_at (some 28) (a' := ?a5) rfl ?b5 ?_
  case b5 => (simp only [Act.put, List.setIfInBounds_toArray, List.set_cons_zero, List.set_cons_succ]; rfl)
  refine wpAnyH_done (by kernel_rfl) ?_ _
  dsimp only [OnlyNormal]
  go_wp2
  go_ret
  rw [HGe.out]
  exact ⟨rfl, HB6.out, hS6⟩
end Go.Proofs.YtfapklpcgcgahaaGreatDoor

/-
  Where a log begins: readHead.
-/
namespace Go.Proofs.YtfapklpcgcgahaaGreatDoor
set_option linter.unusedSimpArgs false
set_option linter.unusedVariables false
open Go.RowKit

def hTurn (b : List UInt8) : Nat := getN ((b.drop 8).take 8)
def hLsn (b : List UInt8) : Nat := getN ((b.drop 16).take 8)
def hAt (b : List UInt8) : Nat := getN ((b.drop 24).take 8)
/-- What a head says, if it is one and a later one. -/
def LS.head (L : LS) (b : List UInt8) : LS := if 0 < hLsn b ∧ L.turn < hTurn b ∧ begB (hTurn b) (hLsn b) (hAt b) = b then { L with turn := hTurn b, first := hLsn b, fin := hAt b } else L
def LS.heads (L : LS) (S : DS) : Nat → LS
  | 0 => L
  | k + 1 => (LS.heads L S k).head (S.now.getD (L.start + k) [])
def LS.readHead (L : LS) (S : DS) : LS := if S.dead = true then L else L.heads S 2
theorem LS.head_kept (L : LS) (b : List UInt8) : (L.head b).start = L.start ∧ (L.head b).n = L.n ∧ (L.head b).l = L.l ∧ (L.head b).next = L.next ∧ (L.head b).life = L.life ∧ (L.head b).room = L.room ∧ (L.head b).kept = L.kept ∧ (L.head b).flushed = L.flushed := by
  unfold LS.head; split <;> exact ⟨rfl, rfl, rfl, rfl, rfl, rfl, rfl, rfl⟩
theorem LS.heads_kept (L : LS) (S : DS) (k : Nat) : (L.heads S k).start = L.start ∧ (L.heads S k).n = L.n ∧ (L.heads S k).l = L.l ∧ (L.heads S k).next = L.next ∧ (L.heads S k).life = L.life ∧ (L.heads S k).room = L.room ∧ (L.heads S k).kept = L.kept ∧ (L.heads S k).flushed = L.flushed := by
  induction k with
  | zero => exact ⟨rfl, rfl, rfl, rfl, rfl, rfl, rfl, rfl⟩
  | succ k ih =>
    have h := LS.head_kept (L.heads S k) (S.now.getD (L.start + k) [])
    simp only [LS.heads]
    exact ⟨h.1.trans ih.1, h.2.1.trans ih.2.1, h.2.2.1.trans ih.2.2.1, h.2.2.2.1.trans ih.2.2.2.1, h.2.2.2.2.1.trans ih.2.2.2.2.1, h.2.2.2.2.2.1.trans ih.2.2.2.2.2.1, h.2.2.2.2.2.2.1.trans ih.2.2.2.2.2.2.1, h.2.2.2.2.2.2.2.trans ih.2.2.2.2.2.2.2⟩

/-- A log and its disk, apart from one another. -/
structure WalIn (w : World) (p d : Nat) (L : LS) (S : DS) (R RD : Nat → Prop) : Prop where
  l : LogOk R w p d L
  d : DiskOk RD w d S
  apart : ∀ b, R b → ¬ RD b
  fits : L.start + L.n ≤ S.now.length

theorem wrap_fit2 {a b : Nat} (h : a + b < 9223372036854775808) : IntKind.i64.wrap ((a : Int) + (b : Int)) = ((a + b : Nat) : Int) := by rw [IntKind.wrap_i64]; omega

set_option maxHeartbeats 1600000 in
set_option maxRecDepth 100000 in
theorem readHead_any {w : World} {p d : Nat} {L : LS} {S : DS} {R RD : Nat → Prop} (h : WalIn w p d L S R RD) :
    Calls Tryz.prog 61 #[.pointer (some ⟨p, 0, none⟩)] w fun e w' => e = .returned (.int .i64 S.fcode) ∧ WalIn w' p d (L.readHead S) S R RD ∧ Fr (fun b => b = p) w w' := by
  obtain ⟨lv, rv, hL⟩ := h.l
  have H := Lib.hid h
  have HL0 := Lib.hid hL
  clear h hL
  go_enter Tryz.func61, Tryz.ntmps61
  go_wp2
  go_loopw [3, 4, 5, 6, 7, 8, 9] (fun _ _ _ _ _ _ i wr => ∃ k : Nat, k ≤ 2 ∧ i = .int .i64 k ∧ (k = 0 ∨ S.dead = false) ∧ Hid (LogAt R wr p d lv rv (L.heads S k)) ∧ Hid (DiskOk RD wr d S) ∧ Hid (Fr (fun b => b = p) w wr)) (fun _ _ _ _ _ _ i _ => 2 - (intOf i).toNat)
  case atStart => exact ⟨0, by omega, rfl, .inl rfl, HL0, H.out.d, Fr.refl _ _⟩
  case round =>
    clear HL0
    obtain ⟨k, hk, rfl, hd, hL, hD, hF⟩ := hrel
    have hfits := H.out.fits
    have hap : ¬ RD p := H.out.apart p hL.out.rp
    have hkept := LS.heads_kept L S k
    have hst : (L.heads S k).start = L.start := hkept.1
    have hnn := hL.out.n0
    have hs1 := hL.out.s1
    rw [hkept.2.1] at hnn
    rw [hst] at hs1
    by_cases hlt : k < 2
    · have hkn : L.start + k < S.now.length := by omega
      go_wp2
      refine wp_region_quietly (fun W => Fr Nob wr W) (by kernel_rfl) ?_
      have hS : Fr Nob wr wr.drew := (Fr.refl _ wr).drew
      by_cases hdead : S.dead = true
      · have hk0 : k = 0 := by
          rcases hd with hd | hd
          · exact hd
          · rw [hdead] at hd; cases hd
        subst hk0
        have hw50 : S.wrong (L.start : Int) = 50 := by
          unfold DS.wrong
          rw [if_neg (by omega), if_pos hdead]
        have hrd := Read_bad (L.start : Int) (hD.out.new hS) (by rw [hw50]; decide)
        rw [hw50] at hrd
        have Hrd := Lib.hid hrd
        have Hdead := Lib.hid hdead
        clear hrd hw50 hdead hd
        refine wpAnyH_op (i := 0) (some 13) (v := ?v0d) (a' := ?a0d) rfl rfl (by kernel_rfl) (by kernel_rfl) (by kernel_rfl) (fun _ _ _ h => h) rfl (fun wz hwz => ?h0d) ?b0d hS ?_
        case h0d => (go_simp; try with_reducible rfl)
        case b0d => (simp only [Act.put, List.setIfInBounds_toArray, List.set_cons_zero, List.set_cons_succ]; rfl)
        refine wpAnyH_op (i := 1) (some 14) (v := ?v1d) (a' := ?a1d) rfl rfl (by kernel_rfl) (by kernel_rfl) (by kernel_rfl) (fun _ _ _ h => h) rfl (fun wz hwz => ?h1d) ?b1d hS ?_
        case h1d => (have hb := (hL.out.blk.fr hwz (fun h => h)); have c0 := hb.cell 0; have c1 := hb.cell 1; rw [hst] at c1; have hp := hb.lt; simp only [List.getElem?_toArray, List.getElem?_cons_zero, List.getElem?_cons_succ] at c0 c1; clear hb; go_simp; try with_reducible rfl)
        case b1d => (simp only [Act.put, List.setIfInBounds_toArray, List.set_cons_zero, List.set_cons_succ]; rfl)
        refine wpAnyH_op (i := 2) (some 15) (v := ?v2d) (a' := ?a2d) rfl rfl (by kernel_rfl) (by kernel_rfl) (by kernel_rfl) (fun _ _ _ h => h) rfl (fun wz hwz => ?h2d) ?b2d hS ?_
        case h2d => (go_simp; try with_reducible rfl)
        case b2d => (simp only [Act.put, List.setIfInBounds_toArray, List.set_cons_zero, List.set_cons_succ]; rfl)
        refine wpAnyH_op (i := 3) (some 16) (v := ?v3d) (a' := ?a3d) rfl rfl (by kernel_rfl) (by kernel_rfl) (by kernel_rfl) (fun _ _ _ h => h) rfl (fun wz hwz => ?h3d) ?b3d hS ?_
        case h3d => (have hb := (hL.out.blk.fr hwz (fun h => h)); have c0 := hb.cell 0; have c1 := hb.cell 1; rw [hst] at c1; have hp := hb.lt; simp only [List.getElem?_toArray, List.getElem?_cons_zero, List.getElem?_cons_succ] at c0 c1; clear hb; go_simp; try with_reducible rfl)
        case b3d => (simp only [Act.put, List.setIfInBounds_toArray, List.set_cons_zero, List.set_cons_succ]; rfl)
        refine wpAnyH_op (i := 4) (some 17) (v := ?v4d) (a' := ?a4d) rfl rfl (by kernel_rfl) (by kernel_rfl) (by kernel_rfl) (fun _ _ _ h => h) rfl (fun wz hwz => ?h4d) ?b4d hS ?_
        case h4d => (go_simp; try with_reducible rfl)
        case b4d => (simp only [Act.put, List.setIfInBounds_toArray, List.set_cons_zero, List.set_cons_succ]; rfl)
        refine wpAnyH_op (i := 5) (some 18) (v := ?v5d) (a' := ?a5d) rfl rfl (by kernel_rfl) (by kernel_rfl) (by kernel_rfl) (fun _ _ _ h => h) rfl (fun wz hwz => ?h5d) ?b5d hS ?_
        case h5d => (have hb := (hL.out.blk.fr hwz (fun h => h)); have c0 := hb.cell 0; have c1 := hb.cell 1; rw [hst] at c1; have hp := hb.lt; simp only [List.getElem?_toArray, List.getElem?_cons_zero, List.getElem?_cons_succ] at c0 c1; clear hb; go_simp; try with_reducible rfl)
        case b5d => (simp only [Act.put, List.setIfInBounds_toArray, List.set_cons_zero, List.set_cons_succ]; rfl)
        refine wpAnyH_op (i := 6) (some 19) (v := ?v6d) (a' := ?a6d) rfl rfl (by kernel_rfl) (by kernel_rfl) (by kernel_rfl) (fun _ _ _ h => h) rfl (fun wz hwz => ?h6d) ?b6d hS ?_
        case h6d => (go_simp; try with_reducible rfl)
        case b6d => (simp only [Act.put, List.setIfInBounds_toArray, List.set_cons_zero, List.set_cons_succ]; rfl)
        refine wpAnyH_op (i := 7) (some 20) (v := ?v7d) (a' := ?a7d) rfl rfl (by kernel_rfl) (by kernel_rfl) (by kernel_rfl) (fun _ _ _ h => h) rfl (fun wz hwz => ?h7d) ?b7d hS ?_
        case h7d => (have hb := (hL.out.blk.fr hwz (fun h => h)); have c0 := hb.cell 0; have c1 := hb.cell 1; rw [hst] at c1; have hp := hb.lt; simp only [List.getElem?_toArray, List.getElem?_cons_zero, List.getElem?_cons_succ] at c0 c1; clear hb; go_simp; try with_reducible rfl)
        case b7d => (simp only [Act.put, List.setIfInBounds_toArray, List.set_cons_zero, List.set_cons_succ]; rfl)
        refine wpAnyH_op (i := 8) (some 21) (v := ?v8d) (a' := ?a8d) rfl rfl (by kernel_rfl) (by kernel_rfl) (by kernel_rfl) (fun _ _ _ h => h) rfl (fun wz hwz => ?h8d) ?b8d hS ?_
        case h8d => (go_simp; try with_reducible rfl)
        case b8d => (simp only [Act.put, List.setIfInBounds_toArray, List.set_cons_zero, List.set_cons_succ]; rfl)
        refine wpAnyH_op (i := 9) (some 22) (v := (.int .i64 (L.start : Int))) (a' := ?a9d) rfl rfl (by kernel_rfl) (by kernel_rfl) (by kernel_rfl) (fun _ _ _ h => h) rfl (fun wz hwz => ?h9d) ?b9d hS ?_
        case h9d => (have e9 : IntKind.i64.wrap (L.start : Int) = (L.start : Int) := (by rw [IntKind.wrap_i64]; omega); go_simp; try with_reducible rfl)
        case b9d => (simp only [Act.put, List.setIfInBounds_toArray, List.set_cons_zero, List.set_cons_succ]; rfl)
        refine wpAnyH_call (i := 10) rfl (by kernel_rfl) rfl ?run10d (Hrd.out) ?_
        case run10d => go_simp
        rintro e w5 ⟨rfl, rfl⟩
        refine ⟨_, rfl, hS, ?_⟩
        refine wpAnyH_at (some 23) (a' := ?a10d) rfl ?b10d ?_
        case b10d => (simp only [Act.put, List.setIfInBounds_toArray, List.set_cons_zero, List.set_cons_succ]; rfl)
        refine wpAnyH_op (i := 11) (some 12) (v := ?v11d) (a' := ?a11d) rfl rfl (by kernel_rfl) (by kernel_rfl) (by kernel_rfl) (fun _ _ _ h => h) rfl (fun wz hwz => ?h11d) ?b11d hS ?_
        case h11d => (go_simp; try with_reducible rfl)
        case b11d => (simp only [Act.put, List.setIfInBounds_toArray, List.set_cons_zero, List.set_cons_succ]; rfl)
        refine wpAnyH_op (i := 12) (some 24) (v := ?v12d) (a' := ?a12d) rfl rfl (by kernel_rfl) (by kernel_rfl) (by kernel_rfl) (fun _ _ _ h => h) rfl (fun wz hwz => ?h12d) ?b12d hS ?_
        case h12d => (go_simp; try with_reducible rfl)
        case b12d => (simp only [Act.put, List.setIfInBounds_toArray, List.set_cons_zero, List.set_cons_succ]; rfl)
        refine wpAnyH_op (i := 13) (some 25) (v := ?v13d) (a' := ?a13d) rfl rfl (by kernel_rfl) (by kernel_rfl) (by kernel_rfl) (fun _ _ _ h => h) rfl (fun wz hwz => ?h13d) ?b13d hS ?_
        case h13d => (go_simp; try with_reducible rfl)
        case b13d => (simp only [Act.put, List.setIfInBounds_toArray, List.set_cons_zero, List.set_cons_succ]; rfl)
        refine wpAnyH_op (i := 14) (some 4) (v := ?v14d) (a' := ?a14d) rfl rfl (by kernel_rfl) (by kernel_rfl) (by kernel_rfl) (fun _ _ _ h => h) rfl (fun wz hwz => ?h14d) ?b14d hS ?_
        case h14d => (go_simp; try with_reducible rfl)
        case b14d => (simp only [Act.put, List.setIfInBounds_toArray, List.set_cons_zero, List.set_cons_succ]; rfl)
        refine wpAnyH_op (i := 15) (some 5) (v := ?v15d) (a' := ?a15d) rfl rfl (by kernel_rfl) (by kernel_rfl) (by kernel_rfl) (fun _ _ _ h => h) rfl (fun wz hwz => ?h15d) ?b15d hS ?_
        case h15d => (go_simp; try with_reducible rfl)
        case b15d => (simp only [Act.put, List.setIfInBounds_toArray, List.set_cons_zero, List.set_cons_succ]; rfl)
        refine wpAnyH_done (by kernel_rfl) ?_ _
        dsimp only [OnlyNormal]
        go_wp2
        go_ret
        refine ⟨?_, ⟨⟨lv, rv, ?_⟩, hD.out.new hS, H.out.apart, ?_⟩, hF.out.trans (hS.mono (fun _ _ h => h.elim))⟩
        · unfold DS.fcode; rw [if_pos Hdead.out]; rfl
        · unfold LS.readHead; rw [if_pos Hdead.out]; exact hL.out.fr hS (fun _ _ h => h)
        · unfold LS.readHead; rw [if_pos Hdead.out]; exact hfits
      · have hd' : S.dead = false := by simpa using hdead
        have hsn : S.now[L.start + k]? = some S.now[L.start + k] := List.getElem?_eq_getElem hkn
        obtain ⟨b, hb⟩ : ∃ b, S.now[L.start + k] = b := ⟨_, rfl⟩
        rw [hb] at hsn
        have hl64 := hD.out.len64 hsn
        have hhd : L.heads S (k + 1) = (L.heads S k).head b := by
          simp only [LS.heads]
          rw [List.getD, hsn]; rfl
        have Hsn := Lib.hid hsn
        have Hd := Lib.hid hd'
        have HHd := Lib.hid hhd
        have HL64 := Lib.hid hl64
        clear hd hd' hdead hsn hb hhd hl64
        refine wpAnyH_op (i := 0) (some 13) (v := ?v0a) (a' := ?a0a) rfl rfl (by kernel_rfl) (by kernel_rfl) (by kernel_rfl) (fun _ _ _ h => h) rfl (fun wz hwz => ?h0a) ?b0a hS ?_
        case h0a => (go_simp; try with_reducible rfl)
        case b0a => (simp only [Act.put, List.setIfInBounds_toArray, List.set_cons_zero, List.set_cons_succ]; rfl)
        refine wpAnyH_op (i := 1) (some 14) (v := ?v1a) (a' := ?a1a) rfl rfl (by kernel_rfl) (by kernel_rfl) (by kernel_rfl) (fun _ _ _ h => h) rfl (fun wz hwz => ?h1a) ?b1a hS ?_
        case h1a => (have hb := (hL.out.blk.fr hwz (fun h => h)); have c0 := hb.cell 0; have c1 := hb.cell 1; rw [hst] at c1; have hp := hb.lt; simp only [List.getElem?_toArray, List.getElem?_cons_zero, List.getElem?_cons_succ] at c0 c1; clear hb; go_simp; try with_reducible rfl)
        case b1a => (simp only [Act.put, List.setIfInBounds_toArray, List.set_cons_zero, List.set_cons_succ]; rfl)
        refine wpAnyH_op (i := 2) (some 15) (v := ?v2a) (a' := ?a2a) rfl rfl (by kernel_rfl) (by kernel_rfl) (by kernel_rfl) (fun _ _ _ h => h) rfl (fun wz hwz => ?h2a) ?b2a hS ?_
        case h2a => (go_simp; try with_reducible rfl)
        case b2a => (simp only [Act.put, List.setIfInBounds_toArray, List.set_cons_zero, List.set_cons_succ]; rfl)
        refine wpAnyH_op (i := 3) (some 16) (v := ?v3a) (a' := ?a3a) rfl rfl (by kernel_rfl) (by kernel_rfl) (by kernel_rfl) (fun _ _ _ h => h) rfl (fun wz hwz => ?h3a) ?b3a hS ?_
        case h3a => (have hb := (hL.out.blk.fr hwz (fun h => h)); have c0 := hb.cell 0; have c1 := hb.cell 1; rw [hst] at c1; have hp := hb.lt; simp only [List.getElem?_toArray, List.getElem?_cons_zero, List.getElem?_cons_succ] at c0 c1; clear hb; go_simp; try with_reducible rfl)
        case b3a => (simp only [Act.put, List.setIfInBounds_toArray, List.set_cons_zero, List.set_cons_succ]; rfl)
        refine wpAnyH_op (i := 4) (some 17) (v := ?v4a) (a' := ?a4a) rfl rfl (by kernel_rfl) (by kernel_rfl) (by kernel_rfl) (fun _ _ _ h => h) rfl (fun wz hwz => ?h4a) ?b4a hS ?_
        case h4a => (go_simp; try with_reducible rfl)
        case b4a => (simp only [Act.put, List.setIfInBounds_toArray, List.set_cons_zero, List.set_cons_succ]; rfl)
        refine wpAnyH_op (i := 5) (some 18) (v := ?v5a) (a' := ?a5a) rfl rfl (by kernel_rfl) (by kernel_rfl) (by kernel_rfl) (fun _ _ _ h => h) rfl (fun wz hwz => ?h5a) ?b5a hS ?_
        case h5a => (have hb := (hL.out.blk.fr hwz (fun h => h)); have c0 := hb.cell 0; have c1 := hb.cell 1; rw [hst] at c1; have hp := hb.lt; simp only [List.getElem?_toArray, List.getElem?_cons_zero, List.getElem?_cons_succ] at c0 c1; clear hb; go_simp; try with_reducible rfl)
        case b5a => (simp only [Act.put, List.setIfInBounds_toArray, List.set_cons_zero, List.set_cons_succ]; rfl)
        refine wpAnyH_op (i := 6) (some 19) (v := ?v6a) (a' := ?a6a) rfl rfl (by kernel_rfl) (by kernel_rfl) (by kernel_rfl) (fun _ _ _ h => h) rfl (fun wz hwz => ?h6a) ?b6a hS ?_
        case h6a => (go_simp; try with_reducible rfl)
        case b6a => (simp only [Act.put, List.setIfInBounds_toArray, List.set_cons_zero, List.set_cons_succ]; rfl)
        refine wpAnyH_op (i := 7) (some 20) (v := ?v7a) (a' := ?a7a) rfl rfl (by kernel_rfl) (by kernel_rfl) (by kernel_rfl) (fun _ _ _ h => h) rfl (fun wz hwz => ?h7a) ?b7a hS ?_
        case h7a => (have hb := (hL.out.blk.fr hwz (fun h => h)); have c0 := hb.cell 0; have c1 := hb.cell 1; rw [hst] at c1; have hp := hb.lt; simp only [List.getElem?_toArray, List.getElem?_cons_zero, List.getElem?_cons_succ] at c0 c1; clear hb; go_simp; try with_reducible rfl)
        case b7a => (simp only [Act.put, List.setIfInBounds_toArray, List.set_cons_zero, List.set_cons_succ]; rfl)
        refine wpAnyH_op (i := 8) (some 21) (v := ?v8a) (a' := ?a8a) rfl rfl (by kernel_rfl) (by kernel_rfl) (by kernel_rfl) (fun _ _ _ h => h) rfl (fun wz hwz => ?h8a) ?b8a hS ?_
        case h8a => (go_simp; try with_reducible rfl)
        case b8a => (simp only [Act.put, List.setIfInBounds_toArray, List.set_cons_zero, List.set_cons_succ]; rfl)
        refine wpAnyH_op (i := 9) (some 22) (v := (.int .i64 ((L.start + k : Nat) : Int))) (a' := ?a9a) rfl rfl (by kernel_rfl) (by kernel_rfl) (by kernel_rfl) (fun _ _ _ h => h) rfl (fun wz hwz => ?h9a) ?b9a hS ?_
        case h9a => (have e9 := wrap_fit2 (a := L.start) (b := k) (by omega); go_simp; try with_reducible rfl)
        case b9a => (simp only [Act.put, List.setIfInBounds_toArray, List.set_cons_zero, List.set_cons_succ]; rfl)
        refine wpAnyH_call (i := 10) rfl (by kernel_rfl) rfl ?run10a (Read_good (L.start + k) b (hD.out.new hS) Hd.out Hsn.out) ?_
        case run10a => go_simp
        rintro e w5 ⟨rfl, hr5, hf5⟩
        obtain ⟨g5, hg5⟩ : ∃ g5, wr.drew.heap.size = g5 := ⟨_, rfl⟩
        rw [hg5] at hr5 ⊢
        clear hg5
        have hS5 : Fr Nob wr w5 := hS.trans hf5
        have HR5 := Lib.hid hr5
        clear hr5 hf5
        refine ⟨_, rfl, hS5, ?_⟩
        refine wpAnyH_at (some 23) (a' := ?a10a) rfl ?b10a ?_
        case b10a => (simp only [Act.put, List.setIfInBounds_toArray, List.set_cons_zero, List.set_cons_succ]; rfl)
        refine wpAnyH_op (i := 11) (some 12) (v := ?v11a) (a' := ?a11a) rfl rfl (by kernel_rfl) (by kernel_rfl) (by kernel_rfl) (fun _ _ _ h => h) rfl (fun wz hwz => ?h11a) ?b11a hS5 ?_
        case h11a => (go_simp; try with_reducible rfl)
        case b11a => (simp only [Act.put, List.setIfInBounds_toArray, List.set_cons_zero, List.set_cons_succ]; rfl)
        refine wpAnyH_op (i := 12) (some 24) (v := ?v12a) (a' := ?a12a) rfl rfl (by kernel_rfl) (by kernel_rfl) (by kernel_rfl) (fun _ _ _ h => h) rfl (fun wz hwz => ?h12a) ?b12a hS5 ?_
        case h12a => (go_simp; try with_reducible rfl)
        case b12a => (simp only [Act.put, List.setIfInBounds_toArray, List.set_cons_zero, List.set_cons_succ]; rfl)
        refine wpAnyH_op (i := 13) (some 25) (v := ?v13a) (a' := ?a13a) rfl rfl (by kernel_rfl) (by kernel_rfl) (by kernel_rfl) (fun _ _ _ h => h) rfl (fun wz hwz => ?h13a) ?b13a hS5 ?_
        case h13a => (go_simp; try with_reducible rfl)
        case b13a => (simp only [Act.put, List.setIfInBounds_toArray, List.set_cons_zero, List.set_cons_succ]; rfl)
        refine wpAnyH_op (i := 14) (some 4) (v := ?v14a) (a' := ?a14a) rfl rfl (by kernel_rfl) (by kernel_rfl) (by kernel_rfl) (fun _ _ _ h => h) rfl (fun wz hwz => ?h14a) ?b14a hS5 ?_
        case h14a => (go_simp; try with_reducible rfl)
        case b14a => (simp only [Act.put, List.setIfInBounds_toArray, List.set_cons_zero, List.set_cons_succ]; rfl)
        refine wpAnyH_op (i := 15) (some 5) (v := ?v15a) (a' := ?a15a) rfl rfl (by kernel_rfl) (by kernel_rfl) (by kernel_rfl) (fun _ _ _ h => h) rfl (fun wz hwz => ?h15a) ?b15a hS5 ?_
        case h15a => (go_simp; try with_reducible rfl)
        case b15a => (simp only [Act.put, List.setIfInBounds_toArray, List.set_cons_zero, List.set_cons_succ]; rfl)
        refine wpAnyH_done (by kernel_rfl) ?_ _
        dsimp only [OnlyNormal]
        go_wp2
        have HG : Hid (∀ n o c, o + 8 ≤ 64 → Calls Tryz.prog 101 #[.slice (some ⟨g5, o, none⟩) 8 c] (w5.drewN n) fun e w' => e = .returned (.int .u64 (getN ((b.drop o).take 8))) ∧ w5.drewN n = w') :=
          fun n o c ho => get_part (HR5.out.fr ((Fr.refl Nob w5).drewN n) (fun h => h)) o 8 c (by rw [HL64.out]; exact ho) (by omega)
        have hgz := HR5.out.lt
        go_quiet ((go_at_call 101; exact quiet_eq (HG.out _ _ _ (by omega))))
        have e0 : getN ((b.drop 8).take 8) = hTurn b := rfl
        have e1 : getN ((b.drop 16).take 8) = hLsn b := rfl
        have e2 : getN ((b.drop 24).take 8) = hAt b := rfl
        rw [e0, e1, e2]
        have t0 : hTurn b < 18446744073709551616 := getN_lt _
        have t1 : hLsn b < 18446744073709551616 := getN_lt _
        have t2 : hAt b < 18446744073709551616 := getN_lt _
        have HR6 : Hid (Row64 (w5.drewN nq) g5 b) := HR5.out.fr ((Fr.refl Nob w5).drewN nq) (fun h => h)
        have HS6 : Hid (Fr Nob wr (w5.drewN nq)) := hS5.drewN nq
        have HLb := Lib.hid (begB_length (hTurn b) (hLsn b) (hAt b))
        have Hhead : Hid ((L.heads S k).head b = if 0 < hLsn b ∧ (L.heads S k).turn < hTurn b ∧ begB (hTurn b) (hLsn b) (hAt b) = b then { L.heads S k with turn := hTurn b, first := hLsn b, fin := hAt b } else L.heads S k) := rfl
        clear e0 e1 e2 HG HR5 hS5 hgz
        generalize w5.drewN nq = w6 at *
        have c10 : w6.cell? ⟨p, 10, none⟩ = some (.int .u64 (L.heads S k).turn) := (hL.out.blk.fr HS6.out (fun h => h)).cell 10
        have hp6 : p < w6.heap.size := (hL.out.blk.fr HS6.out (fun h => h)).lt
        have HN : Hid (¬ (0 < hLsn b ∧ (L.heads S k).turn < hTurn b ∧ begB (hTurn b) (hLsn b) (hAt b) = b) → ∀ W, Fr Nob wr W → LogAt R W p d lv rv (L.heads S (k + 1))) := by
          intro hn W hW
          rw [HHd.out, Hhead.out, if_neg hn]
          exact hL.out.fr hW (fun _ _ h => h)
        have HD6 : Hid (∀ W, Fr Nob wr W → DiskOk RD W d S ∧ Fr (fun b => b = p) w W) := fun W hW => ⟨hD.out.new hW, hF.out.trans (hW.mono (fun _ _ h => h.elim))⟩
        have hn : (L.heads S k).n = L.n := hkept.2.1
        by_cases q1 : 0 < hLsn b
        · by_cases q2 : (L.heads S k).turn < hTurn b
          · have HBg := Lib.hid (begin_any (hTurn b) (hLsn b) (hAt b) w6 t0 t1 t2)
            go_wp2_with fail
            refine HBg.out.mono ?_
            rintro e w7 ⟨rfl, hb7, hf7⟩
            have heq := Equal_any (some ⟨w6.heap.size, 0, none⟩) (some ⟨g5, 0, none⟩) 64 64 (begB (hTurn b) (hLsn b) (hAt b)) b w7 (bytesIn_of hb7) (bytesIn_of (Row64.fr HR6.out hf7 (fun h => h)))
            rw [HLb.out, HL64.out] at heq
            have HE := Lib.hid heq
            have HS7 : Hid (Fr Nob wr w7) := HS6.out.trans hf7
            clear heq hb7 hf7
            go_wp2_with fail
            refine HE.out.mono ?_
            rintro e w8 ⟨rfl, rfl⟩
            by_cases q3 : begB (hTurn b) (hLsn b) (hAt b) = b
            · have hq3 : (begB (hTurn b) (hLsn b) (hAt b) == b) = true := by simpa using q3
              have hp7 : p < w7.heap.size := (hL.out.blk.fr HS7.out (fun h => h)).lt
              have hbk := hL.out.blk.fr HS7.out (fun h => h)
              have d3 := hbk.cell 3
              have d7 := hbk.cell 7
              have d10 := hbk.cell 10
              have f3 := hbk.frozen 3
              have f7 := hbk.frozen 7
              have f10 := hbk.frozen 10
              simp only [List.getElem?_toArray, List.getElem?_cons_zero, List.getElem?_cons_succ] at d3 d7 d10
              have HBk := Lib.hid hbk
              have HUp : Hid (∀ W, W = ((w7.setCell ⟨p, 10, none⟩ (.int .u64 (hTurn b))).setCell ⟨p, 3, none⟩ (.int .u64 (hLsn b))).setCell ⟨p, 7, none⟩ (.int .u64 (hAt b)) → LogAt R W p d lv rv (L.heads S (k + 1)) ∧ DiskOk RD W d S ∧ Fr (fun b => b = p) w W) := by
                rintro W rfl
                have hf : Fr (fun b => b = p) w7 (((w7.setCell ⟨p, 10, none⟩ (.int .u64 (hTurn b))).setCell ⟨p, 3, none⟩ (.int .u64 (hLsn b))).setCell ⟨p, 7, none⟩ (.int .u64 (hAt b))) :=
                  (((Fr.refl (fun b => b = p) w7).setCell (p := ⟨p, 10, none⟩) (.inr rfl) _).setCell (p := ⟨p, 3, none⟩) (.inr rfl) _).setCell (p := ⟨p, 7, none⟩) (.inr rfl) _
                refine ⟨?_, (hD.out.new HS7.out).fr hf (fun x hx e => hap (by subst e; exact hx)), (HD6.out w7 HS7.out).2.trans hf⟩
                rw [HHd.out, Hhead.out, if_pos ⟨q1, q2, q3⟩]
                have hl7 := hL.out.fr HS7.out (fun _ _ h => h)
                exact hl7.upd hf (hLsn b) _ _ (hAt b) _ _ (hTurn b) _ t1 hL.out.b2 hL.out.b3 t2 hL.out.b5 hL.out.b6 t0 (((HBk.out.set_ 10 _).set_ 3 _).set_ 7 _)
              clear hbk q3
              go_wp2
              go_roundw
              case rel => exact ⟨k + 1, by omega, by go_num, .inr Hd.out, (HUp.out _ rfl).1, (HUp.out _ rfl).2.1, (HUp.out _ rfl).2.2⟩
              case measure => simp [intOf]; omega
            · have hq3 : (begB (hTurn b) (hLsn b) (hAt b) == b) = false := by simpa using q3
              have HLk := Lib.hid (HN.out (fun h => q3 h.2.2) w7 HS7.out)
              clear q3
              go_wp2
              go_roundw
              case rel => exact ⟨k + 1, by omega, by go_num, .inr Hd.out, HLk, (HD6.out w7 HS7.out).1, (HD6.out w7 HS7.out).2⟩
              case measure => simp [intOf]; omega
          · have HLk := Lib.hid (HN.out (fun h => q2 h.2.1) w6 HS6.out)
            go_wp2
            go_roundw
            case rel => exact ⟨k + 1, by omega, by go_num, .inr Hd.out, HLk, (HD6.out w6 HS6.out).1, (HD6.out w6 HS6.out).2⟩
            case measure => simp [intOf]; omega
        · have HLk := Lib.hid (HN.out (fun h => q1 h.1) w6 HS6.out)
          go_wp2
          go_roundw
          case rel => exact ⟨k + 1, by omega, by go_num, .inr Hd.out, HLk, (HD6.out w6 HS6.out).1, (HD6.out w6 HS6.out).2⟩
          case measure => simp [intOf]; omega
    · obtain rfl : k = 2 := by omega
      go_wp2
      go_ret
      have hd2 : S.dead = false := by
        rcases hd with hd | hd
        · cases hd
        · exact hd
      refine ⟨?_, ⟨⟨lv, rv, ?_⟩, hD.out, H.out.apart, ?_⟩, hF.out⟩
      · unfold DS.fcode; rw [if_neg (by rw [hd2]; decide)]; rfl
      · unfold LS.readHead; rw [if_neg (by rw [hd2]; decide)]; exact hL.out
      · unfold LS.readHead; rw [if_neg (by rw [hd2]; decide)]; rw [hst, hkept.2.1]; exact hfits
end Go.Proofs.YtfapklpcgcgahaaGreatDoor
