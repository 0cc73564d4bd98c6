/-
  WalHead, Reg, in one text.
-/
import Derived.Test.YtccmmnacejdeoaaGreatDoorMg07
import Derived.OrdersHeld
import Derived.WalkKit
import Derived.Test.YtccmmnacejdeoaaGreatDoorMg04
/-
  Where a log begins: readHead.
-/
namespace Go.Proofs.YtccmmnacejdeoaaGreatDoor
set_option linter.unusedSimpArgs false
set_option linter.unusedVariables false
open Go.RowKit

def hTurn (b : List UInt8) : Nat := getN ((b.drop 8).take 8)
def hLsn (b : List UInt8) : Nat := getN ((b.drop 16).take 8)
def hAt (b : List UInt8) : Nat := getN ((b.drop 24).take 8)
/-- What a head says, if it is one and a later one. -/
def LS.head (L : LS) (b : List UInt8) : LS := if 0 < hLsn b ∧ L.turn < hTurn b ∧ begB (hTurn b) (hLsn b) (hAt b) = b then { L with turn := hTurn b, first := hLsn b, fin := hAt b } else L
def LS.heads (L : LS) (S : DS) : Nat → LS
  | 0 => L
  | k + 1 => (LS.heads L S k).head (S.now.getD (L.start + k) [])
def LS.readHead (L : LS) (S : DS) : LS := if S.dead = true then L else L.heads S 2
theorem LS.head_kept (L : LS) (b : List UInt8) : (L.head b).start = L.start ∧ (L.head b).n = L.n ∧ (L.head b).l = L.l ∧ (L.head b).next = L.next ∧ (L.head b).life = L.life ∧ (L.head b).room = L.room ∧ (L.head b).kept = L.kept ∧ (L.head b).flushed = L.flushed := by
  unfold LS.head; split <;> exact ⟨rfl, rfl, rfl, rfl, rfl, rfl, rfl, rfl⟩
theorem LS.heads_kept (L : LS) (S : DS) (k : Nat) : (L.heads S k).start = L.start ∧ (L.heads S k).n = L.n ∧ (L.heads S k).l = L.l ∧ (L.heads S k).next = L.next ∧ (L.heads S k).life = L.life ∧ (L.heads S k).room = L.room ∧ (L.heads S k).kept = L.kept ∧ (L.heads S k).flushed = L.flushed := by
  induction k with
  | zero => exact ⟨rfl, rfl, rfl, rfl, rfl, rfl, rfl, rfl⟩
  | succ k ih =>
    have h := LS.head_kept (L.heads S k) (S.now.getD (L.start + k) [])
    simp only [LS.heads]
    exact ⟨h.1.trans ih.1, h.2.1.trans ih.2.1, h.2.2.1.trans ih.2.2.1, h.2.2.2.1.trans ih.2.2.2.1, h.2.2.2.2.1.trans ih.2.2.2.2.1, h.2.2.2.2.2.1.trans ih.2.2.2.2.2.1, h.2.2.2.2.2.2.1.trans ih.2.2.2.2.2.2.1, h.2.2.2.2.2.2.2.trans ih.2.2.2.2.2.2.2⟩

/-- A log and its disk, apart from one another. -/
structure WalIn (w : World) (p d : Nat) (L : LS) (S : DS) (R RD : Nat → Prop) : Prop where
  l : LogOk R w p d L
  d : DiskOk RD w d S
  apart : ∀ b, R b → ¬ RD b
  fits : L.start + L.n ≤ S.now.length

theorem wrap_fit2 {a b : Nat} (h : a + b < 9223372036854775808) : IntKind.i64.wrap ((a : Int) + (b : Int)) = ((a + b : Nat) : Int) := by rw [IntKind.wrap_i64]; omega

set_option maxHeartbeats 1600000 in
set_option maxRecDepth 100000 in
theorem readHead_any {w : World} {p d : Nat} {L : LS} {S : DS} {R RD : Nat → Prop} (h : WalIn w p d L S R RD) :
    Calls Tryz.prog 43 #[.pointer (some ⟨p, 0, none⟩)] w fun e w' => e = .returned (.int .i64 S.fcode) ∧ WalIn w' p d (L.readHead S) S R RD ∧ Fr (fun b => b = p) w w' := by
  obtain ⟨lv, rv, hL⟩ := h.l
  have H := Lib.hid h
  have HL0 := Lib.hid hL
  clear h hL
  go_enter Tryz.func43, Tryz.ntmps43
  go_wp2
  go_loopw [3, 4, 5, 6, 7, 8, 9] (fun _ _ _ _ _ _ i wr => ∃ k : Nat, k ≤ 2 ∧ i = .int .i64 k ∧ (k = 0 ∨ S.dead = false) ∧ Hid (LogAt R wr p d lv rv (L.heads S k)) ∧ Hid (DiskOk RD wr d S) ∧ Hid (Fr (fun b => b = p) w wr)) (fun _ _ _ _ _ _ i _ => 2 - (intOf i).toNat)
  case atStart => exact ⟨0, by omega, rfl, .inl rfl, HL0, H.out.d, Fr.refl _ _⟩
  case round =>
    clear HL0
    obtain ⟨k, hk, rfl, hd, hL, hD, hF⟩ := hrel
    have hfits := H.out.fits
    have hap : ¬ RD p := H.out.apart p hL.out.rp
    have hkept := LS.heads_kept L S k
    have hst : (L.heads S k).start = L.start := hkept.1
    have hnn := hL.out.n0
    have hs1 := hL.out.s1
    rw [hkept.2.1] at hnn
    rw [hst] at hs1
    by_cases hlt : k < 2
    · have hkn : L.start + k < S.now.length := by omega
      go_wp2
      refine wp_region_quietly (fun W => Fr Nob wr W) (by kernel_rfl) ?_
      have hS : Fr Nob wr wr.drew := (Fr.refl _ wr).drew
      by_cases hdead : S.dead = true
      · have hk0 : k = 0 := by
          rcases hd with hd | hd
          · exact hd
          · rw [hdead] at hd; cases hd
        subst hk0
        have hw50 : S.wrong (L.start : Int) = 50 := by
          unfold DS.wrong
          rw [if_neg (by omega), if_pos hdead]
        have hrd := Read_bad (L.start : Int) (hD.out.new hS) (by rw [hw50]; decide)
        rw [hw50] at hrd
        have Hrd := Lib.hid hrd
        have Hdead := Lib.hid hdead
        clear hrd hw50 hdead hd
        refine wpAnyH_op (i := 0) (some 13) (v := ?v0d) (a' := ?a0d) rfl rfl (by kernel_rfl) (by kernel_rfl) (by kernel_rfl) (fun _ _ _ h => h) rfl (fun wz hwz => ?h0d) ?b0d hS ?_
        case h0d => (go_simp; try with_reducible rfl)
        case b0d => (simp only [Act.put, List.setIfInBounds_toArray, List.set_cons_zero, List.set_cons_succ]; rfl)
        refine wpAnyH_op (i := 1) (some 14) (v := ?v1d) (a' := ?a1d) rfl rfl (by kernel_rfl) (by kernel_rfl) (by kernel_rfl) (fun _ _ _ h => h) rfl (fun wz hwz => ?h1d) ?b1d hS ?_
        case h1d => (have hb := (hL.out.blk.fr hwz (fun h => h)); have c0 := hb.cell 0; have c1 := hb.cell 1; rw [hst] at c1; have hp := hb.lt; simp only [List.getElem?_toArray, List.getElem?_cons_zero, List.getElem?_cons_succ] at c0 c1; clear hb; go_simp; try with_reducible rfl)
        case b1d => (simp only [Act.put, List.setIfInBounds_toArray, List.set_cons_zero, List.set_cons_succ]; rfl)
        refine wpAnyH_op (i := 2) (some 15) (v := ?v2d) (a' := ?a2d) rfl rfl (by kernel_rfl) (by kernel_rfl) (by kernel_rfl) (fun _ _ _ h => h) rfl (fun wz hwz => ?h2d) ?b2d hS ?_
        case h2d => (go_simp; try with_reducible rfl)
        case b2d => (simp only [Act.put, List.setIfInBounds_toArray, List.set_cons_zero, List.set_cons_succ]; rfl)
        refine wpAnyH_op (i := 3) (some 16) (v := ?v3d) (a' := ?a3d) rfl rfl (by kernel_rfl) (by kernel_rfl) (by kernel_rfl) (fun _ _ _ h => h) rfl (fun wz hwz => ?h3d) ?b3d hS ?_
        case h3d => (have hb := (hL.out.blk.fr hwz (fun h => h)); have c0 := hb.cell 0; have c1 := hb.cell 1; rw [hst] at c1; have hp := hb.lt; simp only [List.getElem?_toArray, List.getElem?_cons_zero, List.getElem?_cons_succ] at c0 c1; clear hb; go_simp; try with_reducible rfl)
        case b3d => (simp only [Act.put, List.setIfInBounds_toArray, List.set_cons_zero, List.set_cons_succ]; rfl)
        refine wpAnyH_op (i := 4) (some 17) (v := ?v4d) (a' := ?a4d) rfl rfl (by kernel_rfl) (by kernel_rfl) (by kernel_rfl) (fun _ _ _ h => h) rfl (fun wz hwz => ?h4d) ?b4d hS ?_
        case h4d => (go_simp; try with_reducible rfl)
        case b4d => (simp only [Act.put, List.setIfInBounds_toArray, List.set_cons_zero, List.set_cons_succ]; rfl)
        refine wpAnyH_op (i := 5) (some 18) (v := ?v5d) (a' := ?a5d) rfl rfl (by kernel_rfl) (by kernel_rfl) (by kernel_rfl) (fun _ _ _ h => h) rfl (fun wz hwz => ?h5d) ?b5d hS ?_
        case h5d => (have hb := (hL.out.blk.fr hwz (fun h => h)); have c0 := hb.cell 0; have c1 := hb.cell 1; rw [hst] at c1; have hp := hb.lt; simp only [List.getElem?_toArray, List.getElem?_cons_zero, List.getElem?_cons_succ] at c0 c1; clear hb; go_simp; try with_reducible rfl)
        case b5d => (simp only [Act.put, List.setIfInBounds_toArray, List.set_cons_zero, List.set_cons_succ]; rfl)
        refine wpAnyH_op (i := 6) (some 19) (v := ?v6d) (a' := ?a6d) rfl rfl (by kernel_rfl) (by kernel_rfl) (by kernel_rfl) (fun _ _ _ h => h) rfl (fun wz hwz => ?h6d) ?b6d hS ?_
        case h6d => (go_simp; try with_reducible rfl)
        case b6d => (simp only [Act.put, List.setIfInBounds_toArray, List.set_cons_zero, List.set_cons_succ]; rfl)
        refine wpAnyH_op (i := 7) (some 20) (v := ?v7d) (a' := ?a7d) rfl rfl (by kernel_rfl) (by kernel_rfl) (by kernel_rfl) (fun _ _ _ h => h) rfl (fun wz hwz => ?h7d) ?b7d hS ?_
        case h7d => (have hb := (hL.out.blk.fr hwz (fun h => h)); have c0 := hb.cell 0; have c1 := hb.cell 1; rw [hst] at c1; have hp := hb.lt; simp only [List.getElem?_toArray, List.getElem?_cons_zero, List.getElem?_cons_succ] at c0 c1; clear hb; go_simp; try with_reducible rfl)
        case b7d => (simp only [Act.put, List.setIfInBounds_toArray, List.set_cons_zero, List.set_cons_succ]; rfl)
        refine wpAnyH_op (i := 8) (some 21) (v := ?v8d) (a' := ?a8d) rfl rfl (by kernel_rfl) (by kernel_rfl) (by kernel_rfl) (fun _ _ _ h => h) rfl (fun wz hwz => ?h8d) ?b8d hS ?_
        case h8d => (go_simp; try with_reducible rfl)
        case b8d => (simp only [Act.put, List.setIfInBounds_toArray, List.set_cons_zero, List.set_cons_succ]; rfl)
        refine wpAnyH_op (i := 9) (some 22) (v := (.int .i64 (L.start : Int))) (a' := ?a9d) rfl rfl (by kernel_rfl) (by kernel_rfl) (by kernel_rfl) (fun _ _ _ h => h) rfl (fun wz hwz => ?h9d) ?b9d hS ?_
        case h9d => (have e9 : IntKind.i64.wrap (L.start : Int) = (L.start : Int) := (by rw [IntKind.wrap_i64]; omega); go_simp; try with_reducible rfl)
        case b9d => (simp only [Act.put, List.setIfInBounds_toArray, List.set_cons_zero, List.set_cons_succ]; rfl)
        refine wpAnyH_call (i := 10) rfl (by kernel_rfl) rfl ?run10d (Hrd.out) ?_
        case run10d => go_simp
        rintro e w5 ⟨rfl, rfl⟩
        refine ⟨_, rfl, hS, ?_⟩
        refine wpAnyH_at (some 23) (a' := ?a10d) rfl ?b10d ?_
        case b10d => (simp only [Act.put, List.setIfInBounds_toArray, List.set_cons_zero, List.set_cons_succ]; rfl)
        refine wpAnyH_op (i := 11) (some 12) (v := ?v11d) (a' := ?a11d) rfl rfl (by kernel_rfl) (by kernel_rfl) (by kernel_rfl) (fun _ _ _ h => h) rfl (fun wz hwz => ?h11d) ?b11d hS ?_
        case h11d => (go_simp; try with_reducible rfl)
        case b11d => (simp only [Act.put, List.setIfInBounds_toArray, List.set_cons_zero, List.set_cons_succ]; rfl)
        refine wpAnyH_op (i := 12) (some 24) (v := ?v12d) (a' := ?a12d) rfl rfl (by kernel_rfl) (by kernel_rfl) (by kernel_rfl) (fun _ _ _ h => h) rfl (fun wz hwz => ?h12d) ?b12d hS ?_
        case h12d => (go_simp; try with_reducible rfl)
        case b12d => (simp only [Act.put, List.setIfInBounds_toArray, List.set_cons_zero, List.set_cons_succ]; rfl)
        refine wpAnyH_op (i := 13) (some 25) (v := ?v13d) (a' := ?a13d) rfl rfl (by kernel_rfl) (by kernel_rfl) (by kernel_rfl) (fun _ _ _ h => h) rfl (fun wz hwz => ?h13d) ?b13d hS ?_
        case h13d => (go_simp; try with_reducible rfl)
        case b13d => (simp only [Act.put, List.setIfInBounds_toArray, List.set_cons_zero, List.set_cons_succ]; rfl)
        refine wpAnyH_op (i := 14) (some 4) (v := ?v14d) (a' := ?a14d) rfl rfl (by kernel_rfl) (by kernel_rfl) (by kernel_rfl) (fun _ _ _ h => h) rfl (fun wz hwz => ?h14d) ?b14d hS ?_
        case h14d => (go_simp; try with_reducible rfl)
        case b14d => (simp only [Act.put, List.setIfInBounds_toArray, List.set_cons_zero, List.set_cons_succ]; rfl)
        refine wpAnyH_op (i := 15) (some 5) (v := ?v15d) (a' := ?a15d) rfl rfl (by kernel_rfl) (by kernel_rfl) (by kernel_rfl) (fun _ _ _ h => h) rfl (fun wz hwz => ?h15d) ?b15d hS ?_
        case h15d => (go_simp; try with_reducible rfl)
        case b15d => (simp only [Act.put, List.setIfInBounds_toArray, List.set_cons_zero, List.set_cons_succ]; rfl)
        refine wpAnyH_done (by kernel_rfl) ?_ _
        dsimp only [OnlyNormal]
        go_wp2
        go_ret
        refine ⟨?_, ⟨⟨lv, rv, ?_⟩, hD.out.new hS, H.out.apart, ?_⟩, hF.out.trans (hS.mono (fun _ _ h => h.elim))⟩
        · unfold DS.fcode; rw [if_pos Hdead.out]; rfl
        · unfold LS.readHead; rw [if_pos Hdead.out]; exact hL.out.fr hS (fun _ _ h => h)
        · unfold LS.readHead; rw [if_pos Hdead.out]; exact hfits
      · have hd' : S.dead = false := by simpa using hdead
        have hsn : S.now[L.start + k]? = some S.now[L.start + k] := List.getElem?_eq_getElem hkn
        obtain ⟨b, hb⟩ : ∃ b, S.now[L.start + k] = b := ⟨_, rfl⟩
        rw [hb] at hsn
        have hl64 := hD.out.len64 hsn
        have hhd : L.heads S (k + 1) = (L.heads S k).head b := by
          simp only [LS.heads]
          rw [List.getD, hsn]; rfl
        have Hsn := Lib.hid hsn
        have Hd := Lib.hid hd'
        have HHd := Lib.hid hhd
        have HL64 := Lib.hid hl64
        clear hd hd' hdead hsn hb hhd hl64
        refine wpAnyH_op (i := 0) (some 13) (v := ?v0a) (a' := ?a0a) rfl rfl (by kernel_rfl) (by kernel_rfl) (by kernel_rfl) (fun _ _ _ h => h) rfl (fun wz hwz => ?h0a) ?b0a hS ?_
        case h0a => (go_simp; try with_reducible rfl)
        case b0a => (simp only [Act.put, List.setIfInBounds_toArray, List.set_cons_zero, List.set_cons_succ]; rfl)
        refine wpAnyH_op (i := 1) (some 14) (v := ?v1a) (a' := ?a1a) rfl rfl (by kernel_rfl) (by kernel_rfl) (by kernel_rfl) (fun _ _ _ h => h) rfl (fun wz hwz => ?h1a) ?b1a hS ?_
        case h1a => (have hb := (hL.out.blk.fr hwz (fun h => h)); have c0 := hb.cell 0; have c1 := hb.cell 1; rw [hst] at c1; have hp := hb.lt; simp only [List.getElem?_toArray, List.getElem?_cons_zero, List.getElem?_cons_succ] at c0 c1; clear hb; go_simp; try with_reducible rfl)
        case b1a => (simp only [Act.put, List.setIfInBounds_toArray, List.set_cons_zero, List.set_cons_succ]; rfl)
        refine wpAnyH_op (i := 2) (some 15) (v := ?v2a) (a' := ?a2a) rfl rfl (by kernel_rfl) (by kernel_rfl) (by kernel_rfl) (fun _ _ _ h => h) rfl (fun wz hwz => ?h2a) ?b2a hS ?_
        case h2a => (go_simp; try with_reducible rfl)
        case b2a => (simp only [Act.put, List.setIfInBounds_toArray, List.set_cons_zero, List.set_cons_succ]; rfl)
        refine wpAnyH_op (i := 3) (some 16) (v := ?v3a) (a' := ?a3a) rfl rfl (by kernel_rfl) (by kernel_rfl) (by kernel_rfl) (fun _ _ _ h => h) rfl (fun wz hwz => ?h3a) ?b3a hS ?_
        case h3a => (have hb := (hL.out.blk.fr hwz (fun h => h)); have c0 := hb.cell 0; have c1 := hb.cell 1; rw [hst] at c1; have hp := hb.lt; simp only [List.getElem?_toArray, List.getElem?_cons_zero, List.getElem?_cons_succ] at c0 c1; clear hb; go_simp; try with_reducible rfl)
        case b3a => (simp only [Act.put, List.setIfInBounds_toArray, List.set_cons_zero, List.set_cons_succ]; rfl)
        refine wpAnyH_op (i := 4) (some 17) (v := ?v4a) (a' := ?a4a) rfl rfl (by kernel_rfl) (by kernel_rfl) (by kernel_rfl) (fun _ _ _ h => h) rfl (fun wz hwz => ?h4a) ?b4a hS ?_
        case h4a => (go_simp; try with_reducible rfl)
        case b4a => (simp only [Act.put, List.setIfInBounds_toArray, List.set_cons_zero, List.set_cons_succ]; rfl)
        refine wpAnyH_op (i := 5) (some 18) (v := ?v5a) (a' := ?a5a) rfl rfl (by kernel_rfl) (by kernel_rfl) (by kernel_rfl) (fun _ _ _ h => h) rfl (fun wz hwz => ?h5a) ?b5a hS ?_
        case h5a => (have hb := (hL.out.blk.fr hwz (fun h => h)); have c0 := hb.cell 0; have c1 := hb.cell 1; rw [hst] at c1; have hp := hb.lt; simp only [List.getElem?_toArray, List.getElem?_cons_zero, List.getElem?_cons_succ] at c0 c1; clear hb; go_simp; try with_reducible rfl)
        case b5a => (simp only [Act.put, List.setIfInBounds_toArray, List.set_cons_zero, List.set_cons_succ]; rfl)
        refine wpAnyH_op (i := 6) (some 19) (v := ?v6a) (a' := ?a6a) rfl rfl (by kernel_rfl) (by kernel_rfl) (by kernel_rfl) (fun _ _ _ h => h) rfl (fun wz hwz => ?h6a) ?b6a hS ?_
        case h6a => (go_simp; try with_reducible rfl)
        case b6a => (simp only [Act.put, List.setIfInBounds_toArray, List.set_cons_zero, List.set_cons_succ]; rfl)
        refine wpAnyH_op (i := 7) (some 20) (v := ?v7a) (a' := ?a7a) rfl rfl (by kernel_rfl) (by kernel_rfl) (by kernel_rfl) (fun _ _ _ h => h) rfl (fun wz hwz => ?h7a) ?b7a hS ?_
        case h7a => (have hb := (hL.out.blk.fr hwz (fun h => h)); have c0 := hb.cell 0; have c1 := hb.cell 1; rw [hst] at c1; have hp := hb.lt; simp only [List.getElem?_toArray, List.getElem?_cons_zero, List.getElem?_cons_succ] at c0 c1; clear hb; go_simp; try with_reducible rfl)
        case b7a => (simp only [Act.put, List.setIfInBounds_toArray, List.set_cons_zero, List.set_cons_succ]; rfl)
        refine wpAnyH_op (i := 8) (some 21) (v := ?v8a) (a' := ?a8a) rfl rfl (by kernel_rfl) (by kernel_rfl) (by kernel_rfl) (fun _ _ _ h => h) rfl (fun wz hwz => ?h8a) ?b8a hS ?_
        case h8a => (go_simp; try with_reducible rfl)
        case b8a => (simp only [Act.put, List.setIfInBounds_toArray, List.set_cons_zero, List.set_cons_succ]; rfl)
        refine wpAnyH_op (i := 9) (some 22) (v := (.int .i64 ((L.start + k : Nat) : Int))) (a' := ?a9a) rfl rfl (by kernel_rfl) (by kernel_rfl) (by kernel_rfl) (fun _ _ _ h => h) rfl (fun wz hwz => ?h9a) ?b9a hS ?_
        case h9a => (have e9 := wrap_fit2 (a := L.start) (b := k) (by omega); go_simp; try with_reducible rfl)
        case b9a => (simp only [Act.put, List.setIfInBounds_toArray, List.set_cons_zero, List.set_cons_succ]; rfl)
        refine wpAnyH_call (i := 10) rfl (by kernel_rfl) rfl ?run10a (Read_good (L.start + k) b (hD.out.new hS) Hd.out Hsn.out) ?_
        case run10a => go_simp
        rintro e w5 ⟨rfl, hr5, hf5⟩
        obtain ⟨g5, hg5⟩ : ∃ g5, wr.drew.heap.size = g5 := ⟨_, rfl⟩
        rw [hg5] at hr5 ⊢
        clear hg5
        have hS5 : Fr Nob wr w5 := hS.trans hf5
        have HR5 := Lib.hid hr5
        clear hr5 hf5
        refine ⟨_, rfl, hS5, ?_⟩
        refine wpAnyH_at (some 23) (a' := ?a10a) rfl ?b10a ?_
        case b10a => (simp only [Act.put, List.setIfInBounds_toArray, List.set_cons_zero, List.set_cons_succ]; rfl)
        refine wpAnyH_op (i := 11) (some 12) (v := ?v11a) (a' := ?a11a) rfl rfl (by kernel_rfl) (by kernel_rfl) (by kernel_rfl) (fun _ _ _ h => h) rfl (fun wz hwz => ?h11a) ?b11a hS5 ?_
        case h11a => (go_simp; try with_reducible rfl)
        case b11a => (simp only [Act.put, List.setIfInBounds_toArray, List.set_cons_zero, List.set_cons_succ]; rfl)
        refine wpAnyH_op (i := 12) (some 24) (v := ?v12a) (a' := ?a12a) rfl rfl (by kernel_rfl) (by kernel_rfl) (by kernel_rfl) (fun _ _ _ h => h) rfl (fun wz hwz => ?h12a) ?b12a hS5 ?_
        case h12a => (go_simp; try with_reducible rfl)
        case b12a => (simp only [Act.put, List.setIfInBounds_toArray, List.set_cons_zero, List.set_cons_succ]; rfl)
        refine wpAnyH_op (i := 13) (some 25) (v := ?v13a) (a' := ?a13a) rfl rfl (by kernel_rfl) (by kernel_rfl) (by kernel_rfl) (fun _ _ _ h => h) rfl (fun wz hwz => ?h13a) ?b13a hS5 ?_
        case h13a => (go_simp; try with_reducible rfl)
        case b13a => (simp only [Act.put, List.setIfInBounds_toArray, List.set_cons_zero, List.set_cons_succ]; rfl)
        refine wpAnyH_op (i := 14) (some 4) (v := ?v14a) (a' := ?a14a) rfl rfl (by kernel_rfl) (by kernel_rfl) (by kernel_rfl) (fun _ _ _ h => h) rfl (fun wz hwz => ?h14a) ?b14a hS5 ?_
        case h14a => (go_simp; try with_reducible rfl)
        case b14a => (simp only [Act.put, List.setIfInBounds_toArray, List.set_cons_zero, List.set_cons_succ]; rfl)
        refine wpAnyH_op (i := 15) (some 5) (v := ?v15a) (a' := ?a15a) rfl rfl (by kernel_rfl) (by kernel_rfl) (by kernel_rfl) (fun _ _ _ h => h) rfl (fun wz hwz => ?h15a) ?b15a hS5 ?_
        case h15a => (go_simp; try with_reducible rfl)
        case b15a => (simp only [Act.put, List.setIfInBounds_toArray, List.set_cons_zero, List.set_cons_succ]; rfl)
        refine wpAnyH_done (by kernel_rfl) ?_ _
        dsimp only [OnlyNormal]
        go_wp2
        have HG : Hid (∀ n o c, o + 8 ≤ 64 → Calls Tryz.prog 67 #[.slice (some ⟨g5, o, none⟩) 8 c] (w5.drewN n) fun e w' => e = .returned (.int .u64 (getN ((b.drop o).take 8))) ∧ w5.drewN n = w') :=
          fun n o c ho => get_part (HR5.out.fr ((Fr.refl Nob w5).drewN n) (fun h => h)) o 8 c (by rw [HL64.out]; exact ho) (by omega)
        have hgz := HR5.out.lt
        go_quiet ((go_at_call 67; exact quiet_eq (HG.out _ _ _ (by omega))))
        have e0 : getN ((b.drop 8).take 8) = hTurn b := rfl
        have e1 : getN ((b.drop 16).take 8) = hLsn b := rfl
        have e2 : getN ((b.drop 24).take 8) = hAt b := rfl
        rw [e0, e1, e2]
        have t0 : hTurn b < 18446744073709551616 := getN_lt _
        have t1 : hLsn b < 18446744073709551616 := getN_lt _
        have t2 : hAt b < 18446744073709551616 := getN_lt _
        have HR6 : Hid (Row64 (w5.drewN nq) g5 b) := HR5.out.fr ((Fr.refl Nob w5).drewN nq) (fun h => h)
        have HS6 : Hid (Fr Nob wr (w5.drewN nq)) := hS5.drewN nq
        have HLb := Lib.hid (begB_length (hTurn b) (hLsn b) (hAt b))
        have Hhead : Hid ((L.heads S k).head b = if 0 < hLsn b ∧ (L.heads S k).turn < hTurn b ∧ begB (hTurn b) (hLsn b) (hAt b) = b then { L.heads S k with turn := hTurn b, first := hLsn b, fin := hAt b } else L.heads S k) := rfl
        clear e0 e1 e2 HG HR5 hS5 hgz
        generalize w5.drewN nq = w6 at *
        have c10 : w6.cell? ⟨p, 10, none⟩ = some (.int .u64 (L.heads S k).turn) := (hL.out.blk.fr HS6.out (fun h => h)).cell 10
        have hp6 : p < w6.heap.size := (hL.out.blk.fr HS6.out (fun h => h)).lt
        have HN : Hid (¬ (0 < hLsn b ∧ (L.heads S k).turn < hTurn b ∧ begB (hTurn b) (hLsn b) (hAt b) = b) → ∀ W, Fr Nob wr W → LogAt R W p d lv rv (L.heads S (k + 1))) := by
          intro hn W hW
          rw [HHd.out, Hhead.out, if_neg hn]
          exact hL.out.fr hW (fun _ _ h => h)
        have HD6 : Hid (∀ W, Fr Nob wr W → DiskOk RD W d S ∧ Fr (fun b => b = p) w W) := fun W hW => ⟨hD.out.new hW, hF.out.trans (hW.mono (fun _ _ h => h.elim))⟩
        have hn : (L.heads S k).n = L.n := hkept.2.1
        by_cases q1 : 0 < hLsn b
        · by_cases q2 : (L.heads S k).turn < hTurn b
          · have HBg := Lib.hid (begin_any (hTurn b) (hLsn b) (hAt b) w6 t0 t1 t2)
            go_wp2_with fail
            refine HBg.out.mono ?_
            rintro e w7 ⟨rfl, hb7, hf7⟩
            have heq := Equal_any (some ⟨w6.heap.size, 0, none⟩) (some ⟨g5, 0, none⟩) 64 64 (begB (hTurn b) (hLsn b) (hAt b)) b w7 (bytesIn_of hb7) (bytesIn_of (Row64.fr HR6.out hf7 (fun h => h)))
            rw [HLb.out, HL64.out] at heq
            have HE := Lib.hid heq
            have HS7 : Hid (Fr Nob wr w7) := HS6.out.trans hf7
            clear heq hb7 hf7
            go_wp2_with fail
            refine HE.out.mono ?_
            rintro e w8 ⟨rfl, rfl⟩
            by_cases q3 : begB (hTurn b) (hLsn b) (hAt b) = b
            · have hq3 : (begB (hTurn b) (hLsn b) (hAt b) == b) = true := by simpa using q3
              have hp7 : p < w7.heap.size := (hL.out.blk.fr HS7.out (fun h => h)).lt
              have hbk := hL.out.blk.fr HS7.out (fun h => h)
              have d3 := hbk.cell 3
              have d7 := hbk.cell 7
              have d10 := hbk.cell 10
              have f3 := hbk.frozen 3
              have f7 := hbk.frozen 7
              have f10 := hbk.frozen 10
              simp only [List.getElem?_toArray, List.getElem?_cons_zero, List.getElem?_cons_succ] at d3 d7 d10
              have HBk := Lib.hid hbk
              have HUp : Hid (∀ W, W = ((w7.setCell ⟨p, 10, none⟩ (.int .u64 (hTurn b))).setCell ⟨p, 3, none⟩ (.int .u64 (hLsn b))).setCell ⟨p, 7, none⟩ (.int .u64 (hAt b)) → LogAt R W p d lv rv (L.heads S (k + 1)) ∧ DiskOk RD W d S ∧ Fr (fun b => b = p) w W) := by
                rintro W rfl
                have hf : Fr (fun b => b = p) w7 (((w7.setCell ⟨p, 10, none⟩ (.int .u64 (hTurn b))).setCell ⟨p, 3, none⟩ (.int .u64 (hLsn b))).setCell ⟨p, 7, none⟩ (.int .u64 (hAt b))) :=
                  (((Fr.refl (fun b => b = p) w7).setCell (p := ⟨p, 10, none⟩) (.inr rfl) _).setCell (p := ⟨p, 3, none⟩) (.inr rfl) _).setCell (p := ⟨p, 7, none⟩) (.inr rfl) _
                refine ⟨?_, (hD.out.new HS7.out).fr hf (fun x hx e => hap (by subst e; exact hx)), (HD6.out w7 HS7.out).2.trans hf⟩
                rw [HHd.out, Hhead.out, if_pos ⟨q1, q2, q3⟩]
                have hl7 := hL.out.fr HS7.out (fun _ _ h => h)
                exact hl7.upd hf (hLsn b) _ _ (hAt b) _ _ (hTurn b) _ t1 hL.out.b2 hL.out.b3 t2 hL.out.b5 hL.out.b6 t0 (((HBk.out.set_ 10 _).set_ 3 _).set_ 7 _)
              clear hbk q3
              go_wp2
              go_roundw
              case rel => exact ⟨k + 1, by omega, by go_num, .inr Hd.out, (HUp.out _ rfl).1, (HUp.out _ rfl).2.1, (HUp.out _ rfl).2.2⟩
              case measure => simp [intOf]; omega
            · have hq3 : (begB (hTurn b) (hLsn b) (hAt b) == b) = false := by simpa using q3
              have HLk := Lib.hid (HN.out (fun h => q3 h.2.2) w7 HS7.out)
              clear q3
              go_wp2
              go_roundw
              case rel => exact ⟨k + 1, by omega, by go_num, .inr Hd.out, HLk, (HD6.out w7 HS7.out).1, (HD6.out w7 HS7.out).2⟩
              case measure => simp [intOf]; omega
          · have HLk := Lib.hid (HN.out (fun h => q2 h.2.1) w6 HS6.out)
            go_wp2
            go_roundw
            case rel => exact ⟨k + 1, by omega, by go_num, .inr Hd.out, HLk, (HD6.out w6 HS6.out).1, (HD6.out w6 HS6.out).2⟩
            case measure => simp [intOf]; omega
        · have HLk := Lib.hid (HN.out (fun h => q1 h.1) w6 HS6.out)
          go_wp2
          go_roundw
          case rel => exact ⟨k + 1, by omega, by go_num, .inr Hd.out, HLk, (HD6.out w6 HS6.out).1, (HD6.out w6 HS6.out).2⟩
          case measure => simp [intOf]; omega
    · obtain rfl : k = 2 := by omega
      go_wp2
      go_ret
      have hd2 : S.dead = false := by
        rcases hd with hd | hd
        · cases hd
        · exact hd
      refine ⟨?_, ⟨⟨lv, rv, ?_⟩, hD.out, H.out.apart, ?_⟩, hF.out⟩
      · unfold DS.fcode; rw [if_neg (by rw [hd2]; decide)]; rfl
      · unfold LS.readHead; rw [if_neg (by rw [hd2]; decide)]; exact hL.out
      · unfold LS.readHead; rw [if_neg (by rw [hd2]; decide)]; rw [hst, hkept.2.1]; exact hfits
end Go.Proofs.YtccmmnacejdeoaaGreatDoor

/-
  Regions that draw their order, once more: what is held of all worlds on the way (S) is not asked behind one operation z that waits for all that is taken ahead of it: a store at the end may hit the cells that the region loads.
-/
namespace Go.Proofs.YtccmmnacejdeoaaGreatDoor
set_option linter.unusedSimpArgs false
set_option linter.unusedVariables false

/-- What may have come up as long as operation i has not (edges that point forward do not count). -/
def poss (md : Region.Mode) (i : Nat) : List Oper → Nat → List Bool → List Bool
  | [], _, acc => acc
  | o :: os, k, acc => poss md i os (k + 1) (acc ++ [k != i && o.after.all fun e => !Region.binds md e || acc.getD e.on true])
/-- What has come up holds all that it waits for. -/
def closed (md : Region.Mode) (ops : Array Oper) (listed : Array Bool) : Bool :=
  (List.range ops.size).all fun k => !listed.getD k false || ((ops[k]?).map (·.after.all fun e => !Region.binds md e || listed.getD e.on false)).getD true

theorem closed_at {md : Region.Mode} {ops : Array Oper} {listed : Array Bool} (h : closed md ops listed = true) {k : Nat} {o : Oper} (ho : ops[k]? = some o) (hk : listed.getD k false = true) : ∀ e ∈ o.after, Region.binds md e = true → listed.getD e.on false = true := by
  intro e he hb
  unfold closed at h
  rw [List.all_eq_true] at h
  have h1 := h k (List.mem_range.2 (Array.getElem?_eq_some_iff.1 ho).1)
  rw [hk, ho] at h1
  simp only [Bool.not_true, Bool.false_or, Option.map_some, Option.getD_some, Array.all_eq_true_iff_forall_mem] at h1
  have := h1 e he
  rw [hb] at this
  simpa using this
theorem closed_set {md : Region.Mode} {ops : Array Oper} {listed : Array Bool} (h : closed md ops listed = true) {j : Nat} (hj : j ∈ Region.ready md ops listed) : closed md ops (listed.setIfInBounds j true) = true := by
  obtain ⟨_, o, ho, hall⟩ := mem_ready.1 hj
  unfold closed
  rw [List.all_eq_true]
  intro k hk
  by_cases hl : (listed.setIfInBounds j true).getD k false = true
  · rw [hl, Bool.not_true, Bool.false_or]
    cases hok : ops[k]? with
    | none => rfl
    | some ok =>
      simp only [Option.map_some, Option.getD_some, Array.all_eq_true_iff_forall_mem]
      intro e he
      cases hb : Region.binds md e with
      | false => rfl
      | true =>
        simp only [Bool.not_true, Bool.false_or]
        refine getD_set_true ?_
        by_cases e1 : j = k
        · subst e1
          rw [ho] at hok
          injection hok with hok
          subst hok
          exact hall e he hb
        · rw [getD_set_ne false e1] at hl
          exact closed_at h hok hl e he hb
  · simp [hl]
theorem poss_spec {md : Region.Mode} {i : Nat} {listed : Array Bool} (hi : listed.getD i true = false) :
    ∀ (os : List Oper) (acc : List Bool), (∀ m, m < acc.length → listed.getD m false = true → acc.getD m true = true) →
      (∀ m o, os[m]? = some o → listed.getD (acc.length + m) false = true → ∀ e ∈ o.after, Region.binds md e = true → listed.getD e.on false = true) →
      ∀ m, m < acc.length + os.length → listed.getD m false = true → (poss md i os acc.length acc).getD m true = true
  | [], acc, h, _, m, hm, hl => h m (by simpa using hm) hl
  | o :: os, acc, h, hc, m, hm, hl => by
    have hlen : (acc ++ [acc.length != i && o.after.all fun e => !Region.binds md e || acc.getD e.on true]).length = acc.length + 1 := by simp
    rw [poss]
    rw [← hlen]
    refine poss_spec hi os _ ?_ ?_ m (by simp at hm ⊢; omega) hl
    · intro x hx hlx
      rw [hlen] at hx
      by_cases e : x < acc.length
      · rw [List.getD_eq_getElem?_getD, List.getElem?_append_left e, ← List.getD_eq_getElem?_getD]; exact h x e hlx
      · obtain rfl : x = acc.length := by omega
        rw [List.getD_eq_getElem?_getD, List.getElem?_append_right (Nat.le_refl _)]
        simp only [Nat.sub_self, List.getElem?_cons_zero, Option.getD_some, Bool.and_eq_true, bne_iff_ne, Array.all_eq_true_iff_forall_mem]
        refine ⟨?_, fun e he => ?_⟩
        · rintro rfl
          rcases Nat.lt_or_ge acc.length listed.size with hs | hs
          · simp [hs] at hi hlx; rw [hi] at hlx; cases hlx
          · simp [Array.getElem?_eq_none hs] at hlx
        · cases hb : Region.binds md e with
          | false => rfl
          | true =>
            simp only [Bool.not_true, Bool.false_or]
            have h2 := hc 0 o rfl (by simpa using hlx) e he hb
            by_cases e2 : e.on < acc.length
            · exact h _ e2 h2
            · rw [List.getD_eq_getElem?_getD, List.getElem?_eq_none (by omega)]; rfl
    · intro x ox hox hlx
      rw [hlen] at hlx
      exact hc (x + 1) ox (by simpa using hox) (by rw [show acc.length + (x + 1) = acc.length + 1 + x from by omega]; exact hlx)
/-- What may not come up as long as i has not. -/
theorem poss_not {md : Region.Mode} {ops : Array Oper} {i j : Nat} {listed : Array Bool} (hc : closed md ops listed = true) (hi : listed.getD i true = false) (hj : j ∈ Region.ready md ops listed) (hne : j ≠ i) : (poss md i ops.toList 0 []).getD j true = true := by
  obtain ⟨hun, oj, hoj, hall⟩ := mem_ready.1 hj
  have hi' : (listed.setIfInBounds j true).getD i true = false := by rw [getD_set_ne true hne]; exact hi
  have hjlt : j < listed.size := by
    rcases Nat.lt_or_ge j listed.size with h | h
    · exact h
    · simp [Array.getElem?_eq_none h] at hun
  have := poss_spec (md := md) hi' ops.toList [] (fun m hm => absurd hm (by simp)) (fun m o ho hl => closed_at (closed_set hc hj) (by simpa using ho) (by simpa using hl)) j
    (by have := (Array.getElem?_eq_some_iff.1 hoj).1; simpa using this) (by simp [hjlt])
  simpa using this

section
variable {P : Program} {ops : Array Oper} {Q : Exit → Act → World → Prop} {md : Region.Mode} {S : World → Prop} {z : List Nat}

/-- Whatever order is picked from here on; S holds behind every operation but z. -/
def Rg (P : Program) (md : Region.Mode) (ops : Array Oper) (Q : Exit → Act → World → Prop) (S : World → Prop) (z : List Nat) : Nat → Array Bool → Act → World → Prop
  | 0, listed, a, w => Region.ready md ops listed = [] ∧ Q .normal a w
  | k + 1, listed, a, w => (Region.ready md ops listed = [] → Q .normal a w) ∧
      ∀ j ∈ Region.ready md ops listed, wpOp P ops Q j (fun b u => (j ∉ z → S u) ∧ Rg P md ops Q S z k (listed.setIfInBounds j true) b u) a w

theorem Rg.any : ∀ (k : Nat) (listed : Array Bool) (a : Act) (w : World), Rg P md ops Q S z k listed a w → wpAny P md ops Q k listed a w
  | 0, _, _, _, h => h
  | k + 1, _, _, _, h => ⟨h.1, fun j hj => wpOp_mono (fun b u hb => Rg.any k _ b u hb.2) (h.2 j hj)⟩

theorem Rg.first {i : Nat} {oi : Oper} {v : Value} (hi : ops[i]? = some oi) (hs : Region.noSelect ops = true) (hQ : ∀ c a w, Q (.panic c) (a.put oi.dst v) w → Q (.panic c) a w)
    (hz : (z.all fun j => j == i || !(poss md i ops.toList 0 []).getD j true) = true) :
    ∀ (k : Nat) (listed : Array Bool) (a : Act) (w : World), closed md ops listed = true →
      (∀ j oj, ops[j]? = some oj → j ≠ i → listed.getD j true = false → (∀ e ∈ oj.after, Region.binds md e = true → e.on ≠ i) → oi.apart ops oj = true) →
      i ∈ Region.ready md ops listed → YieldsIf P ops S oi v a → S w →
      Rg P md ops Q S z k (listed.setIfInBounds i true) (a.put oi.dst v) w → Rg P md ops Q S z (k + 1) listed a w := by
  have now : ∀ (K : Act → World → Prop) (a : Act) (w : World), YieldsIf P ops S oi v a → S w → K (a.put oi.dst v) w → wpOp P ops Q i K a w := fun K a w hy hS hK => hy.wpOp hi hS hK
  intro k
  induction k with
  | zero =>
    intro listed a w _ _ hr hy hS h
    refine ⟨fun e => absurd (e ▸ hr) (by simp), fun j hj => ?_⟩
    by_cases e : j = i
    · subst e; exact now _ a w hy hS ⟨fun _ => hS, h⟩
    · have hm := ready_mono hj e
      rw [h.1] at hm
      cases hm
  | succ k ih =>
    intro listed a w hsz hf hr hy hS h
    refine ⟨fun e => absurd (e ▸ hr) (by simp), fun j hj => ?_⟩
    by_cases e : j = i
    · subst e; exact now _ a w hy hS ⟨fun _ => hS, h⟩
    obtain ⟨hun, oj, hoj, hall⟩ := mem_ready.1 hj
    have hiu := (mem_ready.1 hr).1
    have far : ∀ x : Nat, listed.getD x true = false → ∀ y, listed.getD y false = true → y ≠ x := by
      intro x hx y hy e
      subst e
      rcases Nat.lt_or_ge y listed.size with hl | hl
      · simp [hl] at hx hy; rw [hx] at hy; cases hy
      · simp [Array.getElem?_eq_none hl] at hy
    have hnot : ∀ x ∈ oj.after, Region.binds md x = true → x.on ≠ i := fun x hx hb => far i hiu _ (hall x hx hb)
    have hjz : j ∉ z := by
      intro hm
      have h1 := List.all_eq_true.1 hz j hm
      rw [poss_not hsz hiu hj e] at h1
      simp [e] at h1
    have hap := hf j oj hoj e hun hnot
    have h2 := wpOp_putIf hoj hap (fun cs b => Region.noSelect_spec hs i oi cs b hi) (fun cs b => Region.noSelect_spec hs j oj cs b hoj) hQ hy (h.2 j (ready_mono hj e))
    refine wpOp_mono (fun b u h3 => ?_) h2
    have hSu := h3.2.1 hjz
    refine ⟨fun _ => hSu, ih _ _ _ (closed_set hsz hj) ?_ (ready_mono hr (Ne.symm e)) h3.1 hSu ?_⟩
    · intro m om hm hmi hmu hno
      refine hf m om hm hmi ?_ hno
      by_cases hjm : j = m
      · subst hjm; exact hun
      · rw [getD_set_ne true hjm] at hmu; exact hmu
    · rw [Array.setIfInBounds_comm _ _ e]
      exact h3.2.2

/-! The moves, with what a program can decide filled in. -/

/-- The beginning. -/
theorem Rg.begin {K : Act → World → Prop} {id : Nat} {a : Act} {w : World} (S : World → Prop) (z : List Nat) (hm : P.follows .mixedOrders = true)
    (h : Rg P .any ops (OnlyNormal K) S z ops.size (Array.replicate ops.size false) a w.drew) : (Code.region id ops true).wp P (Exit.then K Q) a w :=
  wp_quietly (wp_region_any hm (Rg.any _ _ _ _ h))
theorem Rg.begin' {id : Nat} {a : Act} {w : World} (S : World → Prop) (z : List Nat) (hm : P.follows .mixedOrders = true) 
    (h : Rg P .any ops (OnlyNormal fun a w => Q .normal a w) S z ops.size (Array.replicate ops.size false) a w.drew) : (Code.region id ops true).wp P Q a w :=
  wp_mono (wp_region_any hm (Rg.any _ _ _ _ h)) (by intro e a w h; cases e <;> first | exact h | exact h.elim)

/-- An operation that only reads, taken first. -/
theorem Rg.op {K : Act → World → Prop} (i : Nat) (d : Option Tmp) {oi : Oper} {v : Value} {fuel : Nat} {listed : Array Bool} {a a' : Act} {w : World} (hS : S w)
    (hi : ops[i]? = some oi := by rfl) (hd : oi.dst = d := by rfl)
    (hc : (Region.noSelect ops && Region.free md ops listed i && (Region.ready md ops listed).contains i && (z.all fun j => j == i || !(poss md i ops.toList 0 []).getD j true) && closed md ops listed && Region.wanted oi (yielded ops a.tmps)) = true := by kernel_rfl)
    (hy : ∀ w, S w → (execOp a.eval oi).run P w = .ok (.value v) w) (ha : a.put d v = a' := by simp only [Act.put, List.setIfInBounds_toArray, List.set_cons_zero, List.set_cons_succ]; rfl)
    (h : Rg P md ops (OnlyNormal K) S z fuel (listed.setIfInBounds i true) a' w) : Rg P md ops (OnlyNormal K) S z (fuel + 1) listed a w := by
  simp only [Bool.and_eq_true, Bool.not_eq_true', beq_iff_eq] at hc
  obtain ⟨⟨⟨⟨⟨h1, h2⟩, h3⟩, h4⟩, h5⟩, h6⟩ := hc
  exact Rg.first hi h1 (fun _ _ _ h => h) h4 fuel listed a w h5 (Region.free_spec hi h2) (by simpa using h3) (.inl ⟨h6, hy⟩) hS (by rw [hd, ha]; exact h)
/-- .. passed over. -/
theorem Rg.pass {K : Act → World → Prop} (i : Nat) (d : Option Tmp) {oi : Oper} {fuel : Nat} {listed : Array Bool} {a a' : Act} {w : World} (hS : S w)
    (hi : ops[i]? = some oi := by rfl) (hd : oi.dst = d := by rfl)
    (hc : (Region.noSelect ops && Region.free md ops listed i && (Region.ready md ops listed).contains i && (z.all fun j => j == i || !(poss md i ops.toList 0 []).getD j true) && closed md ops listed && !Region.wanted oi (yielded ops a.tmps)) = true := by kernel_rfl)
    (ha : a.put d undef = a' := by simp only [Act.put, List.setIfInBounds_toArray, List.set_cons_zero, List.set_cons_succ]; rfl)
    (h : Rg P md ops (OnlyNormal K) S z fuel (listed.setIfInBounds i true) a' w) : Rg P md ops (OnlyNormal K) S z (fuel + 1) listed a w := by
  simp only [Bool.and_eq_true, Bool.not_eq_true', beq_iff_eq] at hc
  obtain ⟨⟨⟨⟨⟨h1, h2⟩, h3⟩, h4⟩, h5⟩, h6⟩ := hc
  exact Rg.first hi h1 (fun _ _ _ h => h) h4 fuel listed a w h5 (Region.free_spec hi h2) (by simpa using h3) (.inr ⟨h6, rfl⟩) hS (by rw [hd, ha]; exact h)

theorem Rg.step {i : Nat} {o : Oper} {fuel : Nat} {listed : Array Bool} {a : Act} {w : World} (hi : ops[i]? = some o) (hr : Region.ready md ops listed = [i]) (hw : Region.wanted o (yielded ops a.tmps) = true)
    (h : o.wp P a w (fun b u => (i ∉ z → S u) ∧ Rg P md ops Q S z fuel (listed.setIfInBounds i true) b u) Q) : Rg P md ops Q S z (fuel + 1) listed a w := by
  refine ⟨fun e => (by rw [e] at hr; cases hr), fun j hj => ?_⟩
  rw [hr, List.mem_singleton] at hj
  subst hj
  unfold wpOp
  rw [hi]
  dsimp only
  rw [if_pos hw]
  exact .inl h

/-- An operation that makes memory, where nothing else may come up. -/
theorem Rg.run (i : Nat) (d : Option Tmp) {o : Oper} {v : Value} {fuel : Nat} {listed : Array Bool} {a a' : Act} {w w' : World}
    (hi : ops[i]? = some o := by rfl) (hd : o.dst = d := by rfl) (hr : Region.ready md ops listed = [i] := by kernel_rfl) (hw : Region.wanted o (yielded ops a.tmps) = true := by rfl)
    (hrun : (execOp a.eval o).run P w = .ok (.value v) w') (ha : a.put d v = a' := by simp only [Act.put, List.setIfInBounds_toArray, List.set_cons_zero, List.set_cons_succ]; rfl) (hS : i ∉ z → S w')
    (h : Rg P md ops Q S z fuel (listed.setIfInBounds i true) a' w') : Rg P md ops Q S z (fuel + 1) listed a w := by
  refine Rg.step hi hr hw ?_
  unfold Oper.wp
  rw [hrun]
  refine ⟨hS, ?_⟩
  rw [hd, ha]
  exact h
/-- An operation that only reads, where nothing else may come up. -/
theorem Rg.seq (i : Nat) (d : Option Tmp) {o : Oper} {v : Value} {fuel : Nat} {listed : Array Bool} {a a' : Act} {w : World} (hS : S w)
    (hi : ops[i]? = some o := by rfl) (hd : o.dst = d := by rfl) (hr : Region.ready md ops listed = [i] := by kernel_rfl) (hw : Region.wanted o (yielded ops a.tmps) = true := by rfl)
    (hrun : (execOp a.eval o).run P w = .ok (.value v) w) (ha : a.put d v = a' := by simp only [Act.put, List.setIfInBounds_toArray, List.set_cons_zero, List.set_cons_succ]; rfl)
    (h : Rg P md ops Q S z fuel (listed.setIfInBounds i true) a' w) : Rg P md ops Q S z (fuel + 1) listed a w :=
  Rg.run i d hi hd hr hw hrun ha (fun _ => hS) h
/-- An operation behind which S is not asked, where nothing else may come up. -/
theorem Rg.late (i : Nat) (d : Option Tmp) {o : Oper} {v : Value} {fuel : Nat} {listed : Array Bool} {a a' : Act} {w : World} (hz : i ∈ z := by decide)
    (hi : ops[i]? = some o := by rfl) (hd : o.dst = d := by rfl) (hr : Region.ready md ops listed = [i] := by kernel_rfl) (hw : Region.wanted o (yielded ops a.tmps) = true := by rfl)
    (hrun : (execOp a.eval o).run P w = .ok (.value v) w) (ha : a.put d v = a' := by simp only [Act.put, List.setIfInBounds_toArray, List.set_cons_zero, List.set_cons_succ]; rfl)
    (h : Rg P md ops Q S z fuel (listed.setIfInBounds i true) a' w) : Rg P md ops Q S z (fuel + 1) listed a w :=
  Rg.run i d hi hd hr hw hrun ha (fun h => absurd hz h) h
/-- A store, where nothing else may come up. -/
theorem Rg.store (i : Nat) {o : Oper} {fuel : Nat} {listed : Array Bool} {a : Act} {w w' : World}
    (hi : ops[i]? = some o := by rfl) (hd : o.dst = none := by rfl) (hr : Region.ready md ops listed = [i] := by kernel_rfl) (hw : Region.wanted o (yielded ops a.tmps) = true := by rfl)
    (hrun : (execOp a.eval o).run P w = .ok .skip w') (hS : i ∉ z → S w')
    (h : Rg P md ops Q S z fuel (listed.setIfInBounds i true) a w') : Rg P md ops Q S z (fuel + 1) listed a w := by
  refine Rg.step hi hr hw ?_
  unfold Oper.wp
  rw [hrun]
  refine ⟨hS, ?_⟩
  rw [hd]
  exact h
/-- A call, where nothing else may come up. -/
theorem Rg.call (i : Nat) (d : Option Tmp) {o : Oper} {fuel : Nat} {listed : Array Bool} {a : Act} {w : World} {f : FuncId} {args : Array Value} {R : Ending → World → Prop}
    (hi : ops[i]? = some o := by rfl) (hd : o.dst = d := by rfl) (hr : Region.ready md ops listed = [i] := by kernel_rfl) (hw : Region.wanted o (yielded ops a.tmps) = true := by rfl)
    (hrun : (execOp a.eval o).run P w = .ok (.enter f args) w) (hcall : Calls P f args w R)
    (h : ∀ e w', R e w' → ∃ v a', e = .returned v ∧ a.put d v = a' ∧ (i ∉ z → S w') ∧ Rg P md ops Q S z fuel (listed.setIfInBounds i true) a' w') : Rg P md ops Q S z (fuel + 1) listed a w := by
  refine Rg.step hi hr hw ?_
  unfold Oper.wp
  rw [hrun]
  refine hcall.mono ?_
  intro e w' hR
  obtain ⟨v, a', rfl, ha, hS, h2⟩ := h e w' hR
  refine ⟨hS, ?_⟩
  rw [hd, ha]
  exact h2
theorem Rg.done {K : Act → World → Prop} {listed : Array Bool} {a : Act} {w : World} (fuel : Nat) (hr : Region.ready md ops listed = [] := by kernel_rfl) (h : K a w) : Rg P md ops (OnlyNormal K) S z fuel listed a w := by
  cases fuel with
  | zero => exact ⟨hr, h⟩
  | succ k => exact ⟨fun _ => h, by rw [hr]; simp⟩
/-- The builtin append, its operands spelled out. -/
theorem run_opAppend {P : Program} {o : Oper} {a : Act} {w w' : World} (s x : Operand) (t T : TypeId) (vs vx : Value) {v : Value} (ho : o.op = .call { callee := .builtin .append, args := #[s, x], argTypes := #[t, t] })
    (hT : o.type = T) (hs : a.eval s = vs) (hx : a.eval x = vx) (h : (Builtin.append_ #[t, t] T #[vs, vx]).run P w = .ok v w') : (execOp a.eval o).run P w = .ok (.value v) w' := by
  unfold execOp
  simp only [ho, hT, hs, hx, resolve, invoke, builtin, Sem.run_bind, Sem.run_pure, Result.andThen_ok, List.map_toArray, List.map_cons, List.map_nil, h]
/-- Whichever of those that may come up comes up. -/
theorem Rg.all {rs : List Nat} {fuel : Nat} {listed : Array Bool} {a : Act} {w : World} (hr : Region.ready md ops listed = rs) (hne : rs ≠ [])
    (h : ∀ i ∈ rs, wpOp P ops Q i (fun b u => (i ∉ z → S u) ∧ Rg P md ops Q S z fuel (listed.setIfInBounds i true) b u) a w) : Rg P md ops Q S z (fuel + 1) listed a w :=
  ⟨fun e => absurd (hr ▸ e) hne, hr ▸ h⟩
end
end Go.Proofs.YtccmmnacejdeoaaGreatDoor
