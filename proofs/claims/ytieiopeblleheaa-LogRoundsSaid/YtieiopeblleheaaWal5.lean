/-
  A record's frame.
-/
import Derived.Test.YtieiopeblleheaaWal3
import Derived.Test.YtieiopeblleheaaDisk2
namespace Go.Proofs.Ytieiopeblleheaa
set_option linter.unusedSimpArgs false
set_option linter.unusedVariables false
open Go.RowKit

def fraN (m : Nat) : List UInt8 := splice (zeros 16) 4 (putB 4 m)
def fraH (lsn m : Nat) : List UInt8 := splice (fraN m) 8 (putB 8 lsn)
def fraPre (lsn : Nat) (rec : List UInt8) : List UInt8 := fraH lsn rec.length ++ rec
def fraB (lsn : Nat) (rec : List UInt8) : List UInt8 := splice (fraPre lsn rec) 0 (putB 4 (crcN ((fraPre lsn rec).drop 4)))
theorem fraN_length (m : Nat) : (fraN m).length = 16 := by unfold fraN; rw [length_splice _ _ _ (by rw [putB_length, zeros_length]; omega), zeros_length]
theorem fraH_length (lsn m : Nat) : (fraH lsn m).length = 16 := by unfold fraH; rw [length_splice _ _ _ (by rw [putB_length, fraN_length]; omega), fraN_length]
theorem fraPre_length (lsn : Nat) (rec : List UInt8) : (fraPre lsn rec).length = 16 + rec.length := by unfold fraPre; rw [List.length_append, fraH_length]
theorem fraB_length (lsn : Nat) (rec : List UInt8) : (fraB lsn rec).length = 16 + rec.length := by
  unfold fraB; rw [length_splice _ _ _ (by rw [putB_length, fraPre_length]; omega), fraPre_length]

theorem splice_take {α : Type} (L cs : List α) (o k : Nat) (h : o + cs.length ≤ k) (hk : k ≤ L.length) : (splice L o cs).take k = splice (L.take k) o cs := by
  apply List.ext_getElem?
  intro i
  rw [splice_get _ _ _ _ (by rw [List.length_take]; omega)]
  by_cases hi : i < k
  · rw [List.getElem?_take_of_lt hi, splice_get _ _ _ _ (by omega), List.getElem?_take_of_lt hi]
  · rw [List.getElem?_eq_none (by rw [List.length_take]; omega), if_neg (by omega), if_neg (by omega), List.getElem?_eq_none (by rw [List.length_take]; omega)]

set_option maxHeartbeats 1600000 in
set_option maxRecDepth 100000 in
theorem frame_any (lsn : Nat) (a : Addr) (c : Nat) (rec : List UInt8) (w : World) (h : BytesIn w (some a) rec) (hA : a.block < w.heap.size) (hl : rec.length ≤ 3000000000) (h1 : lsn < 18446744073709551616) :
    Calls Try.prog 66 #[.int .u64 lsn, .slice (some a) rec.length c] w fun e w' => ∃ v', e = .returned v' ∧ w'.ownsRow w.heap.size 5 1 v' (16 + rec.length) (bts (fraB lsn rec)) ∧ Fr Nob w w' := by
  obtain ⟨i0, hi0, hz0, hz1, hz2⟩ := info_parts info_u8
  have hmk : (Instr.makeSlice 29 (.int .i64 16) (.int .i64 (16 + (rec.length : Int)))).run Try.prog w = .ok (.slice (some ⟨w.heap.size, 0, none⟩) 16 (16 + rec.length)) (w.alloc (.cells (bts (zeros (16 + rec.length))).toArray 5)) := by
    have := run_make (P := Try.prog) w 29 5 i0 (.int .u8 0) Try.underlying29 hi0 hz0 .i64 .i64 16 (16 + (rec.length : Int)) (by omega) (by omega) (by rw [hz2]; omega) (by omega)
    rw [this, hz1, show (Value.int .u8 0).cells = #[Value.int .u8 0] from rfl, madeCells_toArray]
    have e1 : (16 + (rec.length : Int)).toNat = 16 + rec.length := by omega
    rw [e1, Nat.mul_one]
    simp [bts, zeros]
  have H := Lib.hid h
  clear h
  go_enter Try.func66, Try.ntmps66
  go_wp2_with fail
  have HB0 : Hid (Blk (w.alloc (.cells (bts (zeros (16 + rec.length))).toArray 5)) w.heap.size 5 (bts (zeros (16 + rec.length))).toArray) := Blk.new w _ _
  have HF0 : Hid (Fr Nob w (w.alloc (.cells (bts (zeros (16 + rec.length))).toArray 5))) := (Fr.refl _ w).alloc _
  refine (put_any w.heap.size 4 4 (16 + rec.length - 4) (zeros (16 + rec.length)) rec.length _ HB0.out (by rw [zeros_length]; omega) (by omega) (by omega)).mono ?_
  rintro e w1 ⟨rfl, hb1, hf1⟩
  have HB1 := Lib.hid hb1
  have HF1 : Hid (Fr Nob w w1) := HF0.out.step hf1 (fun i hi e => by omega)
  clear hb1 hf1 HB0 HF0
  have hl1 : (splice (zeros (16 + rec.length)) 4 (putB 4 rec.length)).length = 16 + rec.length := by rw [length_splice _ _ _ (by rw [putB_length, zeros_length]; omega), zeros_length]
  have HL1 := Lib.hid hl1
  clear hl1
  go_wp2_with fail
  refine (put_any w.heap.size 8 8 (16 + rec.length - 8) _ lsn _ HB1.out (by rw [HL1.out]; omega) h1 (by omega)).mono ?_
  rintro e w2 ⟨rfl, hb2, hf2⟩
  have HF2 : Hid (Fr Nob w w2) := HF1.out.step hf2 (fun i hi e => by omega)
  have HO2 : Hid (w2.ownsRow w.heap.size 5 1 (.slice (some ⟨w.heap.size, 0, none⟩) 16 (16 + rec.length)) 16 (bts (fraH lsn rec.length))) := by
    refine ⟨by rw [bts_length, fraH_length], .inr ⟨w.heap.size, 16 + rec.length, _, rfl, Nat.le_refl _, hb2, by omega, by unfold maxLen; omega, ?_, ?_⟩⟩
    · rw [List.size_toArray, bts_length, length_splice _ _ _ (by rw [HL1.out, putB_length]; omega), HL1.out]; omega
    · rw [Nat.mul_one]
      show (bts _).take 16 = _
      rw [bts_splice, bts_splice, splice_take _ _ _ _ (by rw [bts_length, putB_length]; omega) (by rw [length_splice _ _ _ (by rw [bts_length, bts_length, putB_length, zeros_length]; omega), bts_length, zeros_length]; omega),
        splice_take _ _ _ _ (by rw [bts_length, putB_length]; omega) (by rw [bts_length, zeros_length]; omega)]
      unfold fraH fraN
      rw [bts_splice, bts_splice]
      congr 2
      simp [bts, zeros]
  clear hb2 hf2 HB1 HF1 HL1
  have hsz2 := HF2.out.size
  have hc2 : Hid (∀ j u, (bts rec)[j]? = some u → w2.cell? (a.add j) = some u) := by
    intro j u hu
    rw [bts_get] at hu
    cases hb : rec[j]? with
    | none => rw [hb] at hu; cases hu
    | some x =>
      rw [hb] at hu
      injection hu with hu
      subst hu
      obtain ⟨kb, ko, e, hc⟩ := H.out (by have := (List.getElem?_eq_some_iff.1 hb).1; omega)
      injection e with e
      subst e
      have h0 := hc j x hb
      rw [show (⟨kb, ko, none⟩ : Addr).add j = ⟨kb, ko + j, none⟩ from by simp [Addr.add]]
      exact (HF2.out.cell (p := ⟨kb, ko + j, none⟩) (cell_lt h0) (fun h => h)).trans h0
  have c1 : Hid ((bts rec).length = rec.length * 1) := by show _ = _; rw [bts_length]; omega
  have c3 : Hid (16 + rec.length ≤ maxLen) := by show _ ≤ _; unfold maxLen; omega
  go_wp2_with (at_builtin; go_must (refine wpList_append_own_at _ rfl (.tmp 20) (.tmp 21) 29 rfl w.heap.size 5 i0 (.int .u8 0) 1 1 Try.underlying29 hi0 hz0 hz1 hz2 rfl (by decide) (.slice (some ⟨w.heap.size, 0, none⟩) 16 (16 + rec.length)) 16 (bts (fraH lsn rec.length)) rfl HO2.out a rec.length c (bts rec) rfl c1.out hc2.out (bts_one rec) c3.out (by omega) hsz2 ?_); intro v' w4 hown hg hn0 hat; obtain ⟨g4, cap4, hv4, hg4, hg4l⟩ := hown.form (by omega); subst hv4; have HO4 := Lib.hid hown; have HR4 := Lib.hid hg; clear hown hg hn0 hat)
  have HF4 : Hid (Fr Nob w w4) := HF2.out.grown HR4.out (fun k hk => .inl (by have : w.heap.size = k := (by simpa [Value.ownBlock] using hk); omega))
  obtain ⟨cur, hh4, hcl, hct⟩ : ∃ cur : List Value, Blk w4 g4 5 cur.toArray ∧ 16 + rec.length ≤ cur.length ∧ cap4 = cur.length ∧ cur.take (16 + rec.length) = bts (fraPre lsn rec) := by
    rcases HO4.out.2 with ⟨e, _⟩ | ⟨g', cap', cur, e, _, hh, hn, _, hs, ht⟩
    · cases e
    · injection e with e1 e2 e3
      injection e1 with e1
      injection e1 with e1
      subst e1 e3
      refine ⟨cur.toList, by simpa [Blk] using hh, by simp; omega, by simp; omega, ?_⟩
      rw [Nat.mul_one] at ht
      rw [ht]
      unfold fraPre
      rw [bts_append]
  obtain ⟨hcap, hct⟩ := hct
  have HB4 := Lib.hid hh4
  have HT4 := Lib.hid hct
  have hm4 : cap4 ≤ maxLen := by
    rcases HO4.out.2 with ⟨e, _⟩ | ⟨g', cap', cur, e, _, _, _, hm, _, _⟩
    · cases e
    · injection e with _ _ e3
      omega
  have hlp := fraPre_length lsn rec
  have hcr := crcN_lt ((fraPre lsn rec).drop 4)
  have HQ : Hid (splice (fraPre lsn rec) 0 (putB 4 (crcN ((fraPre lsn rec).drop 4))) = fraB lsn rec) := rfl
  have HLP := Lib.hid hlp
  clear hh4 hct HO2 HO4 HR4 hc2 c1 c3 hmk hlp
  generalize fraPre lsn rec = t at *
  have HCRC : Hid (∀ W, Blk W g4 5 cur.toArray → Calls Try.prog 71 #[.slice (some ⟨g4, 4, none⟩) (16 + rec.length - 4) (cap4 - 4)] W fun e w' => e = .returned (.int .u32 (crcN (t.drop 4))) ∧ Fr Nob W w') := by
    intro W hW
    have hb : BytesIn W (some ⟨g4, 4, none⟩) (t.drop 4) := fun _ => ⟨g4, 4, rfl, fun j x hx => by
      rw [hW.cell, List.getElem?_toArray]
      rw [List.getElem?_drop] at hx
      have hj := (List.getElem?_eq_some_iff.1 hx).1
      have h2 : (cur.take (16 + rec.length))[4 + j]? = some (.int .u8 x.toNat) := by rw [HT4.out, bts_get, hx]; rfl
      have := HLP.out
      rwa [List.getElem?_take_of_lt (by omega)] at h2⟩
    have := CRC_any (some ⟨g4, 4, none⟩) (cap4 - 4) (t.drop 4) W hb (by rw [List.length_drop, HLP.out]; omega)
    rwa [List.length_drop, HLP.out] at this
  unfold maxLen at hm4
  subst hcap
  have hc4 : (4 : Int) ≤ (cur.length : Int) := by omega
  have hc7 : ¬ cur.length = 4 := by omega
  have hc5 : (4 : Int) ≤ 16 + (rec.length : Int) := by omega
  have hc6 : (16 : Int) + (rec.length : Int) ≤ (cur.length : Int) := by omega
  generalize crcN (t.drop 4) = cr at *
  refine wp_region_quietly (fun W => Fr Nob w W) (by kernel_rfl) ?_
  have hS : Fr Nob w w4.drew := HF4.out.drew
  refine wpAnyH_op (i := 0) (some 23) (v := ?v0) (a' := ?a0) rfl rfl (by kernel_rfl) (by kernel_rfl) (by kernel_rfl) (fun _ _ _ h => h) rfl (fun wz hwz => ?h0) ?b0 hS ?_
  case h0 => (go_simp; try with_reducible rfl)
  case b0 => (simp only [Act.put, List.setIfInBounds_toArray, List.set_cons_zero, List.set_cons_succ]; rfl)
  refine wpAnyH_op (i := 1) (some 24) (v := ?v1) (a' := ?a1) rfl rfl (by kernel_rfl) (by kernel_rfl) (by kernel_rfl) (fun _ _ _ h => h) rfl (fun wz hwz => ?h1) ?b1 hS ?_
  case h1 => (go_simp; try with_reducible rfl)
  case b1 => (simp only [Act.put, List.setIfInBounds_toArray, List.set_cons_zero, List.set_cons_succ]; rfl)
  refine wpAnyH_op (i := 2) (some 25) (v := ?v2) (a' := ?a2) rfl rfl (by kernel_rfl) (by kernel_rfl) (by kernel_rfl) (fun _ _ _ h => h) rfl (fun wz hwz => ?h2) ?b2 hS ?_
  case h2 => (go_simp; try with_reducible rfl)
  case b2 => (simp only [Act.put, List.setIfInBounds_toArray, List.set_cons_zero, List.set_cons_succ]; rfl)
  refine wpAnyH_op (i := 3) (some 26) (v := ?v3) (a' := ?a3) rfl rfl (by kernel_rfl) (by kernel_rfl) (by kernel_rfl) (fun _ _ _ h => h) rfl (fun wz hwz => ?h3) ?b3 hS ?_
  case h3 => (go_simp; try with_reducible rfl)
  case b3 => (simp only [Act.put, List.setIfInBounds_toArray, List.set_cons_zero, List.set_cons_succ]; rfl)
  refine wpAnyH_call (i := 4) rfl (by kernel_rfl) rfl ?run4 (HCRC.out w4.drew HB4.out.drew) ?_
  case run4 => go_simp
  rintro e w5 ⟨rfl, hf5⟩
  have hS5 : Fr Nob w w5 := hS.trans hf5
  have HB5 : Hid (Blk w5 g4 5 cur.toArray) := HB4.out.drew.fr hf5 (fun h => h)
  clear hf5
  refine ⟨_, rfl, hS5, ?_⟩
  refine wpAnyH_at (some 27) (a' := ?a4) rfl ?b4 ?_
  case b4 => (simp only [Act.put, List.setIfInBounds_toArray, List.set_cons_zero, List.set_cons_succ]; rfl)
  refine wpAnyH_op (i := 5) (some 28) (v := (.int .u64 (cr : Nat))) (a' := ?a5) rfl rfl (by kernel_rfl) (by kernel_rfl) (by kernel_rfl) (fun _ _ _ h => h) rfl (fun wz hwz => ?h5) ?b5 hS5 ?_
  case h5 => (have hcr2 := wrap_nat (n := cr) (by omega); go_simp; try with_reducible rfl)
  case b5 => (simp only [Act.put, List.setIfInBounds_toArray, List.set_cons_zero, List.set_cons_succ]; rfl)
  refine wpAnyH_call (i := 6) rfl (by kernel_rfl) rfl ?run6 (put_at g4 0 4 cur.length cur cr w5 HB5.out (by omega) (by omega) (by omega)) ?_
  case run6 => go_simp
  rintro e w6 ⟨rfl, hb6, hf6⟩
  have hS6 : Fr Nob w w6 := hS5.step hf6 (fun i hi e => by omega)
  have HB6 := Lib.hid hb6
  clear hb6 hf6
  refine ⟨_, rfl, hS6, ?_⟩
  refine wpAnyH_at (some 29) (a' := ?a6) rfl ?b6 ?_
  case b6 => (simp only [Act.put, List.setIfInBounds_toArray, List.set_cons_zero, List.set_cons_succ]; rfl)
  refine wpAnyH_done (by kernel_rfl) ?_ _
  dsimp only [OnlyNormal]
  go_wp2
  go_ret
  have hls : (splice cur 0 (bts (putB 4 cr))).length = cur.length := length_splice _ _ _ (by rw [bts_length, putB_length]; omega)
  refine ⟨_, rfl, ⟨by rw [bts_length, fraB_length]; omega, .inr ⟨g4, cur.length, _, rfl, hg4, HB6.out, by omega, by unfold maxLen; omega, ?_, ?_⟩⟩, hS6⟩
  · rw [List.size_toArray, hls]; omega
  · rw [Nat.mul_one]
    show (splice cur 0 (bts (putB 4 cr))).take _ = _
    rw [splice_take _ _ _ _ (by rw [bts_length, putB_length]; omega) (by omega), HT4.out, ← bts_splice, HQ.out]
end Go.Proofs.Ytieiopeblleheaa
