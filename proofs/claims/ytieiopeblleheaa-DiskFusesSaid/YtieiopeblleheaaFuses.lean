/-
  DiskFuses: a disk dies just behind as many writes and flushes as were set, and lives again behind a crash. For every number and every row of bools within the reach.
-/
import Derived.Test.YtieiopeblleheaaAwake2
import Derived.Test.YtieiopeblleheaaRowKitX
namespace Go.Proofs.Ytieiopeblleheaa
open Go.RowKit

/-- How the disk stands when k writes and flushes were asked for. -/
structure FuseInv (n : Int) (k : Nat) (S : DS) : Prop where
  len : S.now.length = 8
  waits : S.waits.length ≤ k
  dead : S.dead = decide (n ≤ k)
  live : (k : Int) < n → S.fuse = n - k

theorem FuseInv.flush {n : Int} {k : Nat} {S : DS} (h : FuseInv n k S) (hk : (k : Int) < n) : FuseInv n (k + 1) S.flush := by
  have hf := h.live hk
  have e : S.flush = { S.flush0 with fuse := n - k - 1, dead := decide (n - k - 1 = 0) } := by
    unfold DS.flush DS.burn
    rw [show S.flush0.fuse = n - k from hf, if_pos (by omega)]
  rw [e]
  refine ⟨h.len, by simp [DS.flush0], ?_, fun h2 => ?_⟩
  · show decide (n - k - 1 = 0) = decide (n ≤ ((k + 1 : Nat) : Int))
    exact decide_eq_decide.2 (by omega)
  · show n - k - 1 = n - ((k + 1 : Nat) : Int)
    omega
theorem FuseInv.write {n : Int} {k : Nat} {S : DS} (h : FuseInv n k S) (hk : (k : Int) < n) (i : Nat) (s : List UInt8) : FuseInv n (k + 1) (S.wr i s) := by
  have hf := h.live hk
  have e : S.wr i s = { S.wr0 i s with fuse := n - k - 1, dead := decide (n - k - 1 = 0) } := by
    unfold DS.wr DS.burn
    rw [show (S.wr0 i s).fuse = n - k from hf, if_pos (by omega)]
  rw [e]
  refine ⟨by simp [DS.wr0, h.len], by have := h.waits; simp [DS.wr0]; omega, ?_, fun h2 => ?_⟩
  · show decide (n - k - 1 = 0) = decide (n ≤ ((k + 1 : Nat) : Int))
    exact decide_eq_decide.2 (by omega)
  · show n - k - 1 = n - ((k + 1 : Nat) : Int)
    omega
theorem FuseInv.stay {n : Int} {k : Nat} {S : DS} (h : FuseInv n k S) (hk : n ≤ k) : FuseInv n (k + 1) S :=
  ⟨h.len, by have := h.waits; omega, by rw [h.dead]; exact decide_eq_decide.2 (by omega), fun h2 => by omega⟩

/-- What the loop holds of the memory. -/
def FuseMem (w wr : World) (p : Nat) (n : Int) (k : Nat) : Prop := ∃ R S, DiskOk R wr p S ∧ (∀ b, R b → w.heap.size ≤ b) ∧ Fr Nob w wr ∧ FuseInv n k S

theorem FuseMem.cellk {w wr : World} {p : Nat} {n : Int} {k : Nat} {a : Addr} {v : Value} (h : FuseMem w wr p n k) (hc : w.cell? a = some v) : wr.cell? a = some v := by
  obtain ⟨R, S, _, _, hF, _⟩ := h
  exact (hF.cell (cell_lt hc) (fun h => h)).trans hc

set_option maxHeartbeats 1000000 in
set_option maxRecDepth 100000 in
theorem Fuses_any (n0 : Int) (A : Option Addr) (c : Nat) (bs : List Bool) (w : World) (hb : BoolsIn w A bs) (hreach : bs.length ≤ 140737488351232) :
    Calls Try.prog 4 #[.int .i64 n0, .slice A bs.length c] w fun e w' => e = .returned (.bool true) ∧ Fr Nob w w' := by
  have HB := Lib.hid hb
  clear hb
  go_enter Try.func4, Try.ntmps4
  go_wp2_with fail
  refine (New_ok 8 _ (by omega) (by omega)).mono ?_
  rintro e w1 ⟨p, rfl, hp, hD1, hf1⟩
  have HD1 := Lib.hid hD1
  have HF1 := Lib.hid hf1
  clear hD1 hf1
  go_wp2_with fail
  rw [i64_and31]
  have hn0 : 0 ≤ n0 % 32 := by omega
  have hn1 : n0 % 32 ≤ 31 := by omega
  generalize n0 % 32 = n at *
  refine (Fuse_any n HD1.out (by omega) (by omega)).mono ?_
  rintro e w2 ⟨rfl, hD2, hf2⟩
  have hz1 := HF1.out.size
  have HM : Hid (FuseMem w w2 p n 0) := by
    refine ⟨_, _, hD2, fun b hb => hb.1, HF1.out.step hf2 (fun i hi h => by omega), ⟨by simp [DS.set, DS.new], by simp [DS.set, DS.new], ?_, fun h => ?_⟩⟩
    · simp only [DS.set, DS.new, Bool.false_or]; exact decide_eq_decide.2 (by omega)
    · simp only [DS.set, DS.new]; omega
  clear hD2 hf2
  go_wp2_with fail
  go_loopw [7, 8] (fun i _ wr => ∃ k : Nat, k ≤ bs.length ∧ k ≤ 60 ∧ i = .int .i64 k ∧ Hid (FuseMem w wr p n k)) (fun i _ _ => 60 - (intOf i).toNat)
  case atStart => exact ⟨0, by omega, by omega, rfl, HM.out⟩
  case round =>
    obtain ⟨k, hk, hk60, rfl, hM⟩ := hrel
    by_cases hlt : k < bs.length ∧ k < 60
    · obtain ⟨hlt1, hlt2⟩ := hlt
      obtain ⟨kb, ko, hA, hcl⟩ := HB.out (by omega)
      subst hA
      have hck : wr.cell? ⟨kb, ko + k, none⟩ = some (.bool bs[k]) := hM.out.cellk (hcl k _ (List.getElem?_eq_getElem hlt1))
      obtain ⟨R, S, hD, hR, hF, hI⟩ := hM.out
      have HD := Lib.hid hD
      have HR := Lib.hid hR
      have HF := Lib.hid hF
      have HI := Lib.hid hI
      have hwl : S.waits.length < 4000000000 := by have := hI.waits; omega
      have hlen : (S.now.length : Int) = 8 := by rw [hI.len]; rfl
      have hdd := hI.dead
      have HDd := Lib.hid hdd
      have HLen := Lib.hid hlen
      clear hD hR hF hI hM hdd hlen hcl
      generalize bs[k] = b at *
      by_cases hkn : (k : Int) < n
      · have hd : Hid (S.dead = false) := by show _ = _; rw [HDd.out]; exact decide_eq_false (by omega)
        cases b
        · go_wp2_with fail
          refine (Sector_ok k _ (by omega) (by omega)).mono ?_
          rintro e w3 ⟨rfl, hr3, hf3⟩
          have HR3 := Lib.hid hr3
          have HF3 := Lib.hid hf3
          clear hr3 hf3
          go_wp2_with fail
          refine (Write_ok _ _ 64 (sect k) (HD.out.new HF3.out) (by omega) (by rw [HLen.out]; omega) hd.out (sect_length _) HR3.out hwl).mono ?_
          rintro e w4 ⟨rfl, hD4, hf4⟩
          have hM4 : Hid (FuseMem w w4 p n (k + 1)) := by
            refine ⟨_, _, hD4, ?_, (HF.out.trans HF3.out).step hf4 (fun i hi h => by have := HR.out i h; omega), HI.out.write hkn _ _⟩
            rintro b (h | h)
            · exact HR.out b h
            · have := HF.out.size; have := HF3.out.size; omega
          clear hD4 hf4
          go_wp2
          go_roundw
          case rel => exact ⟨k + 1, by omega, by omega, by go_num, hM4⟩
          case measure => simp [intOf]; omega
        · go_wp2_with fail
          refine (Flush_good HD.out hd.out hwl).mono ?_
          rintro e w4 ⟨rfl, hD4, hf4⟩
          have hM4 : Hid (FuseMem w w4 p n (k + 1)) := ⟨_, _, hD4, HR.out, HF.out.step hf4 (fun i hi h => by have := HR.out i h; omega), HI.out.flush hkn⟩
          clear hD4 hf4
          go_wp2
          go_roundw
          case rel => exact ⟨k + 1, by omega, by omega, by go_num, hM4⟩
          case measure => simp [intOf]; omega
      · have hd : Hid (S.dead = true) := by show _ = _; rw [HDd.out]; exact decide_eq_true (by omega)
        cases b
        · go_wp2_with fail
          refine (Sector_ok k _ (by omega) (by omega)).mono ?_
          rintro e w3 ⟨rfl, hr3, hf3⟩
          have HR3 := Lib.hid hr3
          have HF3 := Lib.hid hf3
          clear hr3 hf3
          go_wp2_with fail
          refine (Write_dead _ _ 64 (HD.out.new HF3.out) (by omega) (by rw [HLen.out]; omega) hd.out).mono ?_
          rintro e w4 ⟨rfl, rfl⟩
          have hM4 : Hid (FuseMem w w3 p n (k + 1)) := ⟨_, _, HD.out.new HF3.out, HR.out, HF.out.trans HF3.out, HI.out.stay (by omega)⟩
          go_wp2
          go_roundw
          case rel => exact ⟨k + 1, by omega, by omega, by go_num, hM4⟩
          case measure => simp [intOf]; omega
        · go_wp2_with fail
          refine (Flush_dead HD.out hd.out).mono ?_
          rintro e w4 ⟨rfl, rfl⟩
          have hM4 : Hid (FuseMem w wr p n (k + 1)) := ⟨_, _, HD.out, HR.out, HF.out, HI.out.stay (by omega)⟩
          go_wp2
          go_roundw
          case rel => exact ⟨k + 1, by omega, by omega, by go_num, hM4⟩
          case measure => simp [intOf]; omega
    · obtain ⟨R, S, hD, hR, hF, hI⟩ := hM.out
      have HD := Lib.hid hD
      have HR := Lib.hid hR
      have HF := Lib.hid hF
      have HI := Lib.hid hI
      have hdd := hI.dead
      have HDd := Lib.hid hdd
      have hwl : S.waits.length < 4000000000 := by have := hI.waits; omega
      clear hD hR hF hI hM hdd
      rcases (by omega : (k = bs.length ∧ bs.length ≤ 60) ∨ (k = 60 ∧ 60 < bs.length)) with ⟨h1, h2⟩ | ⟨h1, h2⟩
      all_goals
        subst h1
        clear hlt
      · by_cases hnk : n ≤ (bs.length : Int)
        all_goals
          have hSd : Hid (S.dead = decide (n ≤ (bs.length : Int))) := HDd
          have hdec : decide (n ≤ (bs.length : Int)) = decide (n ≤ (bs.length : Int)) := rfl
          simp only [hnk, decide_true, decide_false] at hSd
          first | (replace hdec : decide (n ≤ (bs.length : Int)) = true := decide_eq_true hnk) | (replace hdec : decide (n ≤ (bs.length : Int)) = false := decide_eq_false hnk)
          go_wp2_with fail
          refine (Dead_any HD.out).mono ?_
          rintro e w4 ⟨rfl, rfl⟩
          rw [hSd.out]
          go_wp2_with fail
          refine (Crash_any none 0 [] HD.out (IntsOut.nil _ _ _) (by simp) hwl).mono ?_
          rintro e w5 ⟨rfl, hD5, hf5⟩
          have hl5 : (S.crash []).now.length = 8 := by
            have h1 := HD.out.lens; have h2 := HI.out.len
            simp only [DS.crash, chosen_none, setAll_nil]; omega
          have F5 : Fr Nob w w5 := HF.out.step hf5 (fun i hi h => by have := HR.out i h; omega)
          have HD5 := Lib.hid hD5
          have HF5 := Lib.hid F5
          have HL5 := Lib.hid hl5
          clear hD5 hf5 F5 hl5
          go_wp2_with fail
          refine (Dead_any HD5.out).mono ?_
          rintro e w6 ⟨rfl, rfl⟩
          rw [show (S.crash []).dead = false from rfl]
          go_wp2_with fail
          refine (Sector_ok 1 _ (by omega) (by omega)).mono ?_
          rintro e w7 ⟨rfl, hr7, hf7⟩
          have HR7 := Lib.hid hr7
          have HF7 := Lib.hid hf7
          clear hr7 hf7
          go_wp2_with fail
          refine (Write_ok 0 _ 64 (sect 1) (HD5.out.new HF7.out) (by omega) (by rw [HL5.out]; omega) rfl (sect_length _) HR7.out (by simp [DS.crash])).mono ?_
          rintro e w8 ⟨rfl, hD8, hf8⟩
          rw [DS.wr_off (by simp [DS.crash])] at hD8
          have F8 : Fr Nob w w8 := (HF5.out.trans HF7.out).step hf8 (fun i hi h => by have := HR.out i h; omega)
          have hR8 : ∀ b, Ext R w7 w8 b → w.heap.size ≤ b := by
            rintro b (h | h)
            · exact HR.out b h
            · have := HF5.out.size; have := HF7.out.size; omega
          have HD8 := Lib.hid hD8
          have HF8 := Lib.hid F8
          have HR8 := Lib.hid hR8
          clear hD8 hf8 F8 hR8
          go_wp2_with fail
          refine (Flush_good HD8.out rfl (by simp [DS.wr0, DS.crash])).mono ?_
          rintro e w9 ⟨rfl, hD9, hf9⟩
          have F9 : Fr Nob w w9 := HF8.out.step hf9 (fun i hi h => by have := HR8.out i h; omega)
          have HF9 := Lib.hid F9
          clear hD9 hf9 F9
          go_wp2_with fail
          refine (awake2_any _).mono ?_
          rintro e w10 ⟨rfl, hf10⟩
          have F10 := HF9.out.trans hf10
          clear hf10
          go_wp2
          go_ret
          exact ⟨rfl, F10⟩
      · have hnk : n ≤ 60 := by omega
        have hSd : Hid (S.dead = true) := by show _ = _; rw [HDd.out]; exact decide_eq_true (by omega)
        have hdec : decide (n ≤ 60) = true := decide_eq_true hnk
        go_wp2_with fail
        refine (Dead_any HD.out).mono ?_
        rintro e w4 ⟨rfl, rfl⟩
        rw [hSd.out]
        go_wp2_with fail
        refine (Crash_any none 0 [] HD.out (IntsOut.nil _ _ _) (by simp) hwl).mono ?_
        rintro e w5 ⟨rfl, hD5, hf5⟩
        have hl5 : (S.crash []).now.length = 8 := by
          have h1 := HD.out.lens; have h2 := HI.out.len
          simp only [DS.crash, chosen_none, setAll_nil]; omega
        have F5 : Fr Nob w w5 := HF.out.step hf5 (fun i hi h => by have := HR.out i h; omega)
        have HD5 := Lib.hid hD5
        have HF5 := Lib.hid F5
        have HL5 := Lib.hid hl5
        clear hD5 hf5 F5 hl5
        go_wp2_with fail
        refine (Dead_any HD5.out).mono ?_
        rintro e w6 ⟨rfl, rfl⟩
        rw [show (S.crash []).dead = false from rfl]
        go_wp2_with fail
        refine (Sector_ok 1 _ (by omega) (by omega)).mono ?_
        rintro e w7 ⟨rfl, hr7, hf7⟩
        have HR7 := Lib.hid hr7
        have HF7 := Lib.hid hf7
        clear hr7 hf7
        go_wp2_with fail
        refine (Write_ok 0 _ 64 (sect 1) (HD5.out.new HF7.out) (by omega) (by rw [HL5.out]; omega) rfl (sect_length _) HR7.out (by simp [DS.crash])).mono ?_
        rintro e w8 ⟨rfl, hD8, hf8⟩
        rw [DS.wr_off (by simp [DS.crash])] at hD8
        have F8 : Fr Nob w w8 := (HF5.out.trans HF7.out).step hf8 (fun i hi h => by have := HR.out i h; omega)
        have hR8 : ∀ b, Ext R w7 w8 b → w.heap.size ≤ b := by
          rintro b (h | h)
          · exact HR.out b h
          · have := HF5.out.size; have := HF7.out.size; omega
        have HD8 := Lib.hid hD8
        have HF8 := Lib.hid F8
        have HR8 := Lib.hid hR8
        clear hD8 hf8 F8 hR8
        go_wp2_with fail
        refine (Flush_good HD8.out rfl (by simp [DS.wr0, DS.crash])).mono ?_
        rintro e w9 ⟨rfl, hD9, hf9⟩
        have F9 : Fr Nob w w9 := HF8.out.step hf9 (fun i hi h => by have := HR8.out i h; omega)
        have HF9 := Lib.hid F9
        clear hD9 hf9 F9
        go_wp2_with fail
        refine (awake2_any _).mono ?_
        rintro e w10 ⟨rfl, hf10⟩
        have F10 := HF9.out.trans hf10
        clear hf10
        go_wp2
        go_ret
        exact ⟨rfl, F10⟩
theorem Fuses_row (n0 : Int) (A : Option Addr) (c : Nat) (bs : List Bool) (w : World) (_h0 : -9223372036854775808 ≤ n0) (_h1 : n0 ≤ 9223372036854775807) (hb : BoolsIn w A bs) (hreach : bs.length ≤ 140737488351232) :
    Calls Try.prog 4 #[.int .i64 n0, .slice A bs.length c] w fun e w' => e = .returned (.bool true) ∧ Fr Nob w w' := Fuses_any n0 A c bs w hb hreach
end Go.Proofs.Ytieiopeblleheaa
