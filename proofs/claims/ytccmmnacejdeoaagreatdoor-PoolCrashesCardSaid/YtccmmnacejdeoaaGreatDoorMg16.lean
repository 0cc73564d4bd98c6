/-
  WalCalm0, PgPut, PgImage, in one text.
-/
import Derived.Test.YtccmmnacejdeoaaGreatDoorMg05
import Derived.Test.YtccmmnacejdeoaaGreatDoorMg15
import Derived.Test.YtccmmnacejdeoaaGreatDoorMg14
import Derived.WalkKit
import Derived.WalkSpells
import Derived.WalkLawsBesides
import Derived.Test.YtccmmnacejdeoaaGreatDoorMg06
import Derived.Test.YtccmmnacejdeoaaGreatDoorMg04
import Derived.Test.YtccmmnacejdeoaaGreatDoorMg08
import Derived.Deep.OwnRows
/-
  A log that writes on a disk whose fuse is not lit (plain): what its sectors are, what stays.
-/
namespace Go.Proofs.YtccmmnacejdeoaaGreatDoor
set_option linter.unusedSimpArgs false
set_option linter.unusedVariables false
open Go.RowKit

theorem LS.wrote_calm (L : LS) {S : DS} (no : Nat) (bs : List UInt8) (h : Calm S) : ∀ j, Calm (L.wrote S no bs j)
  | 0 => h
  | j + 1 => (LS.wrote_calm L no bs h j).wr _ _
theorem mod_inj {a b m : Nat} (h : a < b) (hm : b < a + m) : a % m ≠ b % m := fun e => by
  have h1 := Nat.sub_mod_eq_zero_of_mod_eq e.symm
  rw [Nat.mod_eq_of_lt (by omega)] at h1
  omega
theorem LS.wrote_other (L : LS) {S : DS} (no : Nat) (bs : List UInt8) (h : Calm S) : ∀ j x, (∀ i, i < j → x ≠ L.place (no + i)) → (L.wrote S no bs j).now.getD x [] = S.now.getD x []
  | 0, _, _ => rfl
  | j + 1, x, hx => by
    simp only [LS.wrote]
    rw [(LS.wrote_calm L no bs h j).wr_now, List.getD_eq_getElem?_getD, List.getElem?_set, if_neg (fun e => hx j (by omega) e.symm), ← List.getD_eq_getElem?_getD]
    exact LS.wrote_other L no bs h j x (fun i hi => hx i (by omega))

/-- A log that has taken records. -/
theorem LS.add_rs (L : LS) (r : List UInt8) : (L.add r).rs = L.rs ++ [r] := by simp [LS.rs, LS.add]
theorem LS.Laid.add {L : LS} {a0 : Nat} (h : L.Laid a0) (r : List UInt8) : (L.add r).Laid a0 := by
  refine ⟨fun i hi => ?_, ?_⟩
  · have hl : (L.add r).l = L.l ++ [(r, L.fin)] := rfl
    have hi' : i < L.l.length + 1 := by rw [hl] at hi; simpa using hi
    rw [LS.add_rs]
    by_cases e : i < L.l.length
    · have e1 : (L.add r).l[i] = L.l[i] := by
        have : (L.l ++ [(r, L.fin)])[i]'(by simp; omega) = L.l[i] := List.getElem_append_left e
        exact this
      rw [e1, h.at_ i e, List.take_append_of_le_length (by rw [LS.rs_length]; omega)]
    · obtain rfl : i = L.l.length := by omega
      have e1 : (L.add r).l[L.l.length] = (r, L.fin) := by
        have : (L.l ++ [(r, L.fin)])[L.l.length]'(by simp) = (r, L.fin) := by simp
        exact this
      rw [e1, List.take_append_of_le_length (by rw [LS.rs_length]; omega), List.take_of_length_le (by rw [LS.rs_length]; omega)]
      exact h.fin
  · rw [LS.add_rs, sizes_append]
    show L.fin + (16 + r.length) = _
    rw [h.fin]
    simp [sizes]; omega
theorem LS.Laid.adds {a0 : Nat} : ∀ (rs : List (List UInt8)) {L : LS}, L.Laid a0 → (L.adds rs).Laid a0
  | [], _, h => h
  | r :: rs, _, h => LS.Laid.adds rs (h.add r)

end Go.Proofs.YtccmmnacejdeoaaGreatDoor

/-
  Numbers as bytes, in the package page: get, put.
-/
namespace Go.Proofs.YtccmmnacejdeoaaGreatDoor
set_option linter.unusedSimpArgs false
set_option linter.unusedVariables false
open Go.RowKit

set_option maxRecDepth 100000 in
theorem pgGet_any (A : Option Addr) (c : Nat) (l : List UInt8) (w : World) (h : BytesIn w A l) (hl : l.length ≤ 4000000000) :
    Calls Tryz.prog 59 #[.slice A l.length c] w fun e w' => e = .returned (.int .u64 (getN l)) ∧ w = w' := by
  have H := Lib.hid h
  clear h
  go_enter Tryz.func59, Tryz.ntmps59
  go_wp2
  go_loopw [3, 5, 8] (fun x _ i wr => ∃ k : Nat, k ≤ l.length ∧ i = .int .i64 k ∧ x = .int .u64 (getN (l.take k)) ∧ w = wr) (fun _ _ i _ => l.length - (intOf i).toNat)
  case atStart => exact ⟨0, by omega, rfl, by simp [getN], rfl⟩
  case round =>
    obtain ⟨k, hk, rfl, rfl, rfl⟩ := hrel
    by_cases hlt : k < l.length
    · obtain ⟨g, o, hA, hc⟩ := H.out (by omega)
      subst hA
      have c0 := hc k _ (List.getElem?_eq_getElem hlt)
      clear hc
      have hs := getN_take l k hlt
      have HS : Hid (bits .or .u64 (IntKind.u64.wrap ((getN (l.take k) : Nat) * 256 : Int)) (IntKind.u64.wrap ((l[k].toNat : Nat) : Int)) = ((getN (l.take (k + 1)) : Nat) : Int)) := by
        show _ = _
        rw [hs]; exact or_byte _ _ (UInt8.toNat_lt _)
      clear hs
      generalize l[k] = b at *
      go_wp2
      go_roundw
      case rel => exact ⟨k + 1, by omega, by go_num, by rw [HS.out], by trivial⟩
      case measure => simp [intOf]; omega
    · obtain rfl : k = l.length := by omega
      rw [List.take_length]
      go_wp2
      go_ret
      exact ⟨rfl, rfl⟩

set_option maxRecDepth 100000 in
theorem pgPut_at (g o n c : Nat) (cs : List Value) (x : Nat) (w : World) (hb : Blk w g 5 cs.toArray) (ho : o + n ≤ cs.length) (hx : x < 18446744073709551616) (hn : n ≤ 8) :
    Calls Tryz.prog 88 #[.slice (some ⟨g, o, none⟩) n c, .int .u64 x] w fun e w' => e = .returned (.tuple #[]) ∧ Blk w' g 5 (splice cs o (bts (putB n x))).toArray ∧ Fr (fun b => b = g) w w' := by
  obtain ⟨P, hP⟩ : ∃ P, bts (putB n x) = P := ⟨_, rfl⟩
  have hat := fun k hk => putB_at n x k hk
  have hPl : P.length = n := by rw [← hP, bts_length, putB_length]
  rw [hP] at hat ⊢
  have H : Hid (Blk w g 5 (splice cs (o + P.length - 0) (P.drop (P.length - 0))).toArray) := by
    show Blk _ _ _ _
    rw [Nat.sub_zero, Nat.sub_zero, List.drop_length]
    unfold splice
    rw [List.length_nil, Nat.add_zero, List.nil_append, List.take_append_drop]; exact hb
  have HAt := Lib.hid hat
  have HPl := Lib.hid hPl
  clear hb hat hP hPl
  go_enter Tryz.func88, Tryz.ntmps88
  go_wp2
  go_loopw [4, 7] (fun _ i wr => ∃ k : Nat, k ≤ n ∧ i = .int .i64 k ∧ Hid (Blk wr g 5 (splice cs (o + P.length - k) (P.drop (P.length - k))).toArray) ∧ Hid (Fr (fun b => b = g) w wr)) (fun _ i _ => n - (intOf i).toNat)
  case atStart => exact ⟨0, by omega, rfl, H, Fr.refl _ _⟩
  case round =>
    clear H
    obtain ⟨k, hk, rfl, hB, hF⟩ := hrel
    by_cases hlt : k < n
    · have hl1 : (splice cs (o + P.length - k) (P.drop (P.length - k))).length = cs.length := by
        have := HPl.out
        exact length_splice _ _ _ (by rw [List.length_drop]; omega)
      have HS : Hid (Blk (wr.setCell ⟨g, o + (n - 1 - k), none⟩ (.int .u8 ((x : Int) / 2 ^ (8 * k) % 256))) g 5 (splice cs (o + P.length - (k + 1)) (P.drop (P.length - (k + 1)))).toArray) := by
        show Blk _ _ _ _
        have h1 := HPl.out
        have h2 := HAt.out k hlt
        rw [← splice_step cs P o k _ (by omega) (by omega) h2]
        have := hB.out.set_ (o + (n - 1 - k)) (.int .u8 ((x : Int) / 2 ^ (8 * k) % 256))
        rw [List.setIfInBounds_toArray] at this
        rw [h1]
        rwa [h1] at this
      obtain ⟨v0, c0⟩ : ∃ v, wr.cell? ⟨g, o + (n - 1 - k), none⟩ = some v := by
        rw [hB.out.cell]
        exact ⟨_, by rw [List.getElem?_toArray]; exact List.getElem?_eq_getElem (by omega)⟩
      have f0 := hB.out.frozen (o + (n - 1 - k))
      clear hl1
      go_wp2
      go_roundw
      case rel => exact ⟨k + 1, by omega, by go_num, HS, hF.out.setCell (p := ⟨g, o + (n - 1 - k), none⟩) (.inr rfl) _⟩
      case measure => simp [intOf]; omega
    · obtain rfl : k = n := by omega
      go_wp2
      go_end0
      have hfin := hB.out
      rw [HPl.out, Nat.add_sub_cancel, Nat.sub_self, List.drop_zero] at hfin
      exact ⟨rfl, hfin, hF.out⟩

theorem pgPut_any (g o n c : Nat) (t : List UInt8) (x : Nat) (w : World) (hb : Blk w g 5 (bts t).toArray) (ho : o + n ≤ t.length) (hx : x < 18446744073709551616) (hn : n ≤ 8) :
    Calls Tryz.prog 88 #[.slice (some ⟨g, o, none⟩) n c, .int .u64 x] w fun e w' => e = .returned (.tuple #[]) ∧ Blk w' g 5 (bts (splice t o (putB n x))).toArray ∧ Fr (fun b => b = g) w w' := by
  rw [bts_splice]
  exact pgPut_at g o n c (bts t) x w hb (by rw [bts_length]; exact ho) hx hn
end Go.Proofs.YtccmmnacejdeoaaGreatDoor

/-
  A page's bytes on the disk, and a lot's head.
-/
namespace Go.Proofs.YtccmmnacejdeoaaGreatDoor
set_option linter.unusedSimpArgs false
set_option linter.unusedVariables false
open Go.RowKit

/-- A page. -/
structure PgV where
  no : Nat
  lsn : Nat
  d : List UInt8
def imgM : List UInt8 := (zeros 512).set 0 84
def imgA (x : PgV) : List UInt8 := splice imgM 4 (putB 4 x.no)
def imgL (x : PgV) : List UInt8 := splice (imgA x) 8 (putB 8 x.lsn)
def imgT (x : PgV) (turn : Nat) : List UInt8 := splice (imgL x) 16 (putB 8 turn)
def imgD (x : PgV) (turn : Nat) : List UInt8 := splice (imgT x turn) 32 x.d
def imgB (x : PgV) (turn : Nat) : List UInt8 := splice (imgD x turn) 28 (putB 4 (crcN (imgD x turn)))
theorem imgM_length : imgM.length = 512 := by unfold imgM; rw [List.length_set, zeros_length]
theorem imgA_length (x : PgV) : (imgA x).length = 512 := by unfold imgA; rw [length_splice _ _ _ (by rw [putB_length, imgM_length]; omega), imgM_length]
theorem imgL_length (x : PgV) : (imgL x).length = 512 := by unfold imgL; rw [length_splice _ _ _ (by rw [putB_length, imgA_length]; omega), imgA_length]
theorem imgT_length (x : PgV) (turn : Nat) : (imgT x turn).length = 512 := by unfold imgT; rw [length_splice _ _ _ (by rw [putB_length, imgL_length]; omega), imgL_length]
theorem imgD_length (x : PgV) (turn : Nat) (h : x.d.length = 480) : (imgD x turn).length = 512 := by unfold imgD; rw [length_splice _ _ _ (by rw [imgT_length]; omega), imgT_length]
theorem imgB_length (x : PgV) (turn : Nat) (h : x.d.length = 480) : (imgB x turn).length = 512 := by unfold imgB; rw [length_splice _ _ _ (by rw [putB_length, imgD_length x turn h]; omega), imgD_length x turn h]

def lotM : List UInt8 := (zeros 64).set 0 85
def lotN (n : Nat) : List UInt8 := splice lotM 8 (putB 8 n)
def lotT (turn n : Nat) : List UInt8 := splice (lotN n) 16 (putB 8 turn)
def lotB (turn n : Nat) : List UInt8 := splice (lotT turn n) 28 (putB 4 (crcN (lotT turn n)))
theorem lotM_length : lotM.length = 64 := by unfold lotM; rw [List.length_set, zeros_length]
theorem lotN_length (n : Nat) : (lotN n).length = 64 := by unfold lotN; rw [length_splice _ _ _ (by rw [putB_length, lotM_length]; omega), lotM_length]
theorem lotT_length (turn n : Nat) : (lotT turn n).length = 64 := by unfold lotT; rw [length_splice _ _ _ (by rw [putB_length, lotN_length]; omega), lotN_length]
theorem lotB_length (turn n : Nat) : (lotB turn n).length = 64 := by unfold lotB; rw [length_splice _ _ _ (by rw [putB_length, lotT_length]; omega), lotT_length]

theorem crcAt {w : World} {g n : Nat} {t : List UInt8} (h : Blk w g 5 (bts t).toArray) (hl : t.length = n) (hn : n ≤ 512) :
    Calls Tryz.prog 89 #[.slice (some ⟨g, 0, none⟩) n n] w fun e w' => e = .returned (.int .u32 (crcN t)) ∧ Fr Nob w w' := by
  have := CRC_any (some ⟨g, 0, none⟩) n t w (bytesIn_of h) (by omega)
  rwa [hl] at this
def zeroCells (n : Nat) : Array Value := madeCells #[.int .u8 0] n
theorem zeroCells_eq (n : Nat) : zeroCells n = (bts (zeros n)).toArray := by
  unfold zeroCells
  rw [madeCells_toArray]; simp [zeros, bts]
theorem info_u8z : (Tryz.prog.info? 5).map (fun i => (i.zero, i.size, i.bytes)) = some (some (.int .u8 0), 1, 1) := by kernel_rfl
theorem make512 (w : World) : (Instr.makeSlice 38 (.int .i64 512) (.int .i64 512)).run Tryz.prog w = .ok (.slice (some ⟨w.heap.size, 0, none⟩) 512 512) (w.alloc (.cells (zeroCells 512) 5)) :=
  run_make_row' (P := Tryz.prog) 38 5 (.int .u8 0) 1 Tryz.underlying38 info_u8z rfl .i64 .i64 512 (by omega) (by omega) w
theorem makeP64 (w : World) : (Instr.makeSlice 38 (.int .i64 64) (.int .i64 64)).run Tryz.prog w = .ok (.slice (some ⟨w.heap.size, 0, none⟩) 64 64) (w.alloc (.cells (zeroCells 64) 5)) :=
  run_make_row' (P := Tryz.prog) 38 5 (.int .u8 0) 1 Tryz.underlying38 info_u8z rfl .i64 .i64 64 (by omega) (by omega) w
/-- The builtin copy, its operands spelled out. -/
theorem run_opCopy {P : Program} {o : Oper} {a : Act} {w w' : World} (s x : Operand) (t u T : TypeId) (vs vx : Value) {v : Value} (ho : o.op = .call { callee := .builtin .copy, args := #[s, x], argTypes := #[t, u] })
    (hT : o.type = T) (hs : a.eval s = vs) (hx : a.eval x = vx) (h : (Builtin.copy_ #[t, u] T #[vs, vx]).run P w = .ok v w') : (execOp a.eval o).run P w = .ok (.value v) w' := by
  unfold execOp
  simp only [ho, hT, hs, hx, resolve, invoke, builtin, Sem.run_bind, Sem.run_pure, Result.andThen_ok, List.map_toArray, List.map_cons, List.map_nil, h]

set_option maxHeartbeats 1600000 in
set_option maxRecDepth 100000 in
theorem image_any (x : PgV) (turn : Nat) (A : Option Addr) (c : Nat) (w : World) (hd : x.d.length = 480) (h : BytesIn w A x.d) (h1 : x.no < 9223372036854775808) (h2 : x.lsn < 18446744073709551616) (h3 : turn < 18446744073709551616) :
    Calls Tryz.prog 61 #[.agg #[.int .i64 x.no, .int .u64 x.lsn, .slice A 480 c], .int .u64 turn] w fun e w' => e = .returned (.slice (some ⟨w.heap.size + 1, 0, none⟩) 512 512) ∧ Blk w' (w.heap.size + 1) 5 (bts (imgB x turn)).toArray ∧ Fr Nob w w' := by
  have hmk := make512
  have hz0 : (zeroCells 512).setIfInBounds 0 (.int .u8 84) = (bts imgM).toArray := by
    unfold imgM
    rw [← bts_set, zeroCells_eq]; rfl
  have c00 : (zeroCells 512)[0]? = some (.int .u8 0) := by rw [zeroCells_eq, List.getElem?_toArray, bts_get]; rfl
  have HBy := Lib.hid h
  have HDl := Lib.hid hd
  have HQ : Hid (splice (imgD x turn) 28 (putB 4 (crcN (imgD x turn))) = imgB x turn) := rfl
  have HB0 : Hid (Blk ((w.alloc (.cells #[.int .i64 x.no, .int .u64 x.lsn, .slice A 480 c] 40)).alloc (.cells ((zeroCells 512).setIfInBounds 0 (.int .u8 84)) 5)) (w.heap.size + 1) 5 (bts imgM).toArray) := by
    show Blk _ _ _ _
    rw [hz0]
    have := Blk.new (w.alloc (.cells #[.int .i64 x.no, .int .u64 x.lsn, .slice A 480 c] 40)) 5 (bts imgM).toArray
    rwa [World.size_alloc] at this
  clear hz0 h hd
  go_enter Tryz.func61, Tryz.ntmps61
  go_wp2
  have hf1 : Fr Nob w ((w.alloc (.cells #[.int .i64 x.no, .int .u64 x.lsn, .slice A 480 c] 40)).alloc (.cells ((zeroCells 512).setIfInBounds 0 (.int .u8 84)) 5)) := ((Fr.refl _ w).alloc _).alloc _
  have hx1 : Blk ((w.alloc (.cells #[.int .i64 x.no, .int .u64 x.lsn, .slice A 480 c] 40)).alloc (.cells ((zeroCells 512).setIfInBounds 0 (.int .u8 84)) 5)) w.heap.size 40 #[.int .i64 x.no, .int .u64 x.lsn, .slice A 480 c] := (Blk.new w _ _).alloc _
  obtain ⟨w1, hw1⟩ : ∃ W, ((w.alloc (.cells #[.int .i64 x.no, .int .u64 x.lsn, .slice A 480 c] 40)).alloc (.cells ((zeroCells 512).setIfInBounds 0 (.int .u8 84)) 5)) = W := ⟨_, rfl⟩
  rw [hw1] at hf1 hx1 HB0 ⊢
  obtain ⟨g, hg⟩ : ∃ g, w.heap.size + 1 = g := ⟨_, rfl⟩
  obtain ⟨s, hs⟩ : ∃ s, w.heap.size = s := ⟨_, rfl⟩
  rw [hg] at HB0 ⊢
  rw [hs] at hx1 ⊢
  have hsg : s ≠ g := by omega
  have HWg : Hid (w.heap.size ≤ g) := by show _ ≤ _; omega
  have HGe := Lib.hid hg
  have HF1 := Lib.hid hf1
  have HX1 := Lib.hid hx1
  clear hw1 hf1 hx1 hg hs c00 hmk
  go_wp2
  have hS1 : Fr (fun b => b = g) w1 w1.drew := (Fr.refl _ w1).drew
  refine Rg.begin (Fr (fun b => b = g) w1) [] (by kernel_rfl) ?_
  refine Rg.op 0 (some 9) hS1 (v := ?v0r3) (hy := fun wz hwz => ?h0r3) (h := ?_)
  case h0r3 => (go_simp; try with_reducible rfl)
  refine Rg.op 1 (some 10) hS1 (v := ?v1r3) (hy := fun wz hwz => ?h1r3) (h := ?_)
  case h1r3 => (go_simp; try with_reducible rfl)
  refine Rg.op 2 (some 11) hS1 (v := ?v2r3) (hy := fun wz hwz => ?h2r3) (h := ?_)
  case h2r3 => (go_simp; try with_reducible rfl)
  refine Rg.op 3 (some 12) hS1 (v := ?v3r3) (hy := fun wz hwz => ?h3r3) (h := ?_)
  case h3r3 => (have hb := HX1.out.fr hwz (fun h => hsg h); have cc := hb.cell 0; have hp := hb.lt; simp only [List.getElem?_toArray, List.getElem?_cons_zero, List.getElem?_cons_succ] at cc; clear hb; go_simp; try with_reducible rfl)
  refine Rg.op 4 (some 13) hS1 (v := (.int .u64 x.no)) (hy := fun wz hwz => ?h4r3) (h := ?_)
  case h4r3 => (have hc := wrap_nat (n := x.no) (by omega); go_simp; try with_reducible rfl)
  refine Rg.call 5 (some 14) (hrun := ?h5r3) (hcall := pgPut_any g 4 4 508 imgM x.no _ HB0.out.drew (by rw [imgM_length]; omega) (by omega) (by omega)) (h := ?_)
  case h5r3 => (go_simp)
  rintro e w2 ⟨rfl, hb1, hf1⟩
  have hT1 : Fr (fun b => b = g) w1 w2 := hS1.trans hf1
  have HB1 : Hid (Blk w2 g 5 (bts (imgA x)).toArray) := hb1
  have HX2 := Lib.hid (HX1.out.fr hT1 (fun h => hsg h))
  have HF2 : Hid (Fr Nob w w2) := HF1.out.step hT1 (fun i hi h => by have := HWg.out; omega)
  clear hb1 hf1
  refine ⟨_, ?a5r3, rfl, ?b5r3, (fun _ => hT1), ?_⟩
  case b5r3 => (simp only [Act.put, List.setIfInBounds_toArray, List.set_cons_zero, List.set_cons_succ]; rfl)
  refine Rg.done _ (h := ?_)
  clear hT1 hS1 HX1 HF1 HB0
  go_wp2
  have hS2 : Fr (fun b => b = g) w2 w2.drew := (Fr.refl _ w2).drew
  refine Rg.begin (Fr (fun b => b = g) w2) [] (by kernel_rfl) ?_
  refine Rg.op 0 (some 15) hS2 (v := ?v0r4) (hy := fun wz hwz => ?h0r4) (h := ?_)
  case h0r4 => (go_simp; try with_reducible rfl)
  refine Rg.op 1 (some 16) hS2 (v := ?v1r4) (hy := fun wz hwz => ?h1r4) (h := ?_)
  case h1r4 => (go_simp; try with_reducible rfl)
  refine Rg.op 2 (some 17) hS2 (v := ?v2r4) (hy := fun wz hwz => ?h2r4) (h := ?_)
  case h2r4 => (go_simp; try with_reducible rfl)
  refine Rg.op 3 (some 18) hS2 (v := ?v3r4) (hy := fun wz hwz => ?h3r4) (h := ?_)
  case h3r4 => (have hb := HX2.out.fr hwz (fun h => hsg h); have cc := hb.cell 1; have hp := hb.lt; simp only [List.getElem?_toArray, List.getElem?_cons_zero, List.getElem?_cons_succ] at cc; clear hb; go_simp; try with_reducible rfl)
  refine Rg.call 4 (some 19) (hrun := ?h4r4) (hcall := pgPut_any g 8 8 504 (imgA x) x.lsn _ HB1.out.drew (by rw [imgA_length]; omega) (by omega) (by omega)) (h := ?_)
  case h4r4 => (go_simp)
  rintro e w3 ⟨rfl, hb2, hf2⟩
  have hT2 : Fr (fun b => b = g) w2 w3 := hS2.trans hf2
  have HB2 : Hid (Blk w3 g 5 (bts (imgL x)).toArray) := hb2
  have HX3 := Lib.hid (HX2.out.fr hT2 (fun h => hsg h))
  have HF3 : Hid (Fr Nob w w3) := HF2.out.step hT2 (fun i hi h => by have := HWg.out; omega)
  clear hb2 hf2
  refine ⟨_, ?a4r4, rfl, ?b4r4, (fun _ => hT2), ?_⟩
  case b4r4 => (simp only [Act.put, List.setIfInBounds_toArray, List.set_cons_zero, List.set_cons_succ]; rfl)
  refine Rg.done _ (h := ?_)
  clear hT2 hS2 HX2 HF2 HB1
  go_wp2_with fail
  refine (pgPut_any g 16 8 496 (imgL x) turn _ HB2.out (by rw [imgL_length]; omega) h3 (by omega)).mono ?_
  rintro e w4 ⟨rfl, hb3, hf3⟩
  have HB3 : Hid (Blk w4 g 5 (bts (imgT x turn)).toArray) := hb3
  have HX4 := Lib.hid (HX3.out.fr hf3 (fun h => hsg h))
  have HF4 : Hid (Fr Nob w w4) := HF3.out.step hf3 (fun i hi h => by have := HWg.out; omega)
  clear hb3 hf3 HX3 HF3 HB2
  go_wp2
  have hS4 : Fr (fun b => b = g) w4 w4.drew := (Fr.refl _ w4).drew
  have hn : Hid ((bts x.d).length = Nat.min 480 480) := by show _ = _; rw [bts_length, HDl.out]; rfl
  have hfit : Hid (32 + (bts x.d).length ≤ (bts (imgT x turn)).toArray.size) := by show _ ≤ _; rw [bts_length, HDl.out, List.size_toArray, bts_length, imgT_length]; omega
  obtain ⟨kb, ko, rfl, hcs⟩ := HBy.out (by rw [HDl.out]; omega)
  have hsrc : Hid (∀ j v, (bts x.d)[j]? = some v → w4.cell? ((⟨kb, ko, none⟩ : Addr).add j) = some v) := fun j v hv => bytesIn_cells (HBy.out.new HF4.out) j v hv
  have hcp := run_copy_row (P := Tryz.prog) w4.drew 38 38 3 5 g 32 480 480 ⟨kb, ko, none⟩ 480 c (bts (imgT x turn)).toArray 5 (bts x.d) Tryz.underlying38 (by kernel_rfl) HB3.out.drew hn.out hsrc.out hfit.out (bts_one x.d)
  have hsz : (bts x.d).length = 480 := by rw [bts_length, HDl.out]
  have hrow : ((bts (imgT x turn)).toArray.toList.take 32 ++ bts x.d ++ (bts (imgT x turn)).toArray.toList.drop (32 + (bts x.d).length)).toArray = (bts (imgD x turn)).toArray := by
    unfold imgD; rw [bts_splice]; rfl
  rw [hrow, hsz] at hcp
  have hb5 : Blk (w4.drew.setRow g (bts (imgD x turn)).toArray) g 5 (bts (imgD x turn)).toArray := setRow_heap w4.drew g _ _ _ _ HB3.out.drew
  have hg5 := grown_setRow w4.drew g (bts (imgD x turn)).toArray
  obtain ⟨w5, hw5⟩ : ∃ W, w4.drew.setRow g (bts (imgD x turn)).toArray = W := ⟨_, rfl⟩
  rw [hw5] at hcp hb5 hg5
  have hT4 : Fr (fun b => b = g) w4 w5 := hS4.grown hg5 (fun r hr => .inr (by injection hr with hr; exact hr.symm))
  have HCp := Lib.hid hcp
  have HB4 := Lib.hid hb5
  have HF5 : Hid (Fr Nob w w5) := HF4.out.step hT4 (fun i hi h => by have := HWg.out; omega)
  clear hcp hrow hb5 hg5 hw5 hn hfit hsrc hcs
  refine Rg.begin (Fr (fun b => b = g) w4) [] (by kernel_rfl) ?_
  refine Rg.op 0 (some 24) hS4 (v := ?v0r6) (hy := fun wz hwz => ?h0r6) (h := ?_)
  case h0r6 => (go_simp; try with_reducible rfl)
  refine Rg.op 1 (some 25) hS4 (v := ?v1r6) (hy := fun wz hwz => ?h1r6) (h := ?_)
  case h1r6 => (go_simp; try with_reducible rfl)
  refine Rg.op 2 (some 26) hS4 (v := ?v2r6) (hy := fun wz hwz => ?h2r6) (h := ?_)
  case h2r6 => (go_simp; try with_reducible rfl)
  refine Rg.op 3 (some 27) hS4 (v := (.slice (some ⟨kb, ko, none⟩) 480 c)) (hy := fun wz hwz => ?h3r6) (h := ?_)
  case h3r6 => (have hb := HX4.out.fr hwz (fun h => hsg h); have cc := hb.cell 2; have hp := hb.lt; simp only [List.getElem?_toArray, List.getElem?_cons_zero, List.getElem?_cons_succ] at cc; clear hb; go_simp; try with_reducible rfl)
  refine Rg.run 4 (some 28) (v := (goInt 480)) (w' := (w5)) (hrun := ?h4r6) (hS := (fun _ => hT4)) (h := ?_)
  case h4r6 => exact run_opCopy (.tmp 25) (.tmp 27) 38 38 3 (.slice (some ⟨g, 32, none⟩) 480 480) (.slice (some ⟨kb, ko, none⟩) 480 c) rfl rfl rfl rfl HCp.out
  refine Rg.done _ (h := ?_)
  clear hT4 hS4 HX4 HF4 HB3 HCp
  have hl5 := imgD_length x turn HDl.out
  have hcr := crcN_lt (imgD x turn)
  have HL5 := Lib.hid hl5
  clear hl5
  generalize imgD x turn = tt at *
  go_wp2
  have hS5 : Fr (fun b => b = g) w5 w5.drew := (Fr.refl _ w5).drew
  refine Rg.begin (Fr (fun b => b = g) w5) [] (by kernel_rfl) ?_
  refine Rg.op 0 (some 29) hS5 (v := ?v0r7) (hy := fun wz hwz => ?h0r7) (h := ?_)
  case h0r7 => (go_simp; try with_reducible rfl)
  refine Rg.op 1 (some 30) hS5 (v := ?v1r7) (hy := fun wz hwz => ?h1r7) (h := ?_)
  case h1r7 => (go_simp; try with_reducible rfl)
  refine Rg.op 2 (some 31) hS5 (v := ?v2r7) (hy := fun wz hwz => ?h2r7) (h := ?_)
  case h2r7 => (go_simp; try with_reducible rfl)
  refine Rg.call 3 (some 32) (hrun := ?h3r7) (hcall := crcAt HB4.out.drew HL5.out (by omega)) (h := ?_)
  case h3r7 => (go_simp)
  rintro e w6 ⟨rfl, hf6⟩
  have hT5 : Fr (fun b => b = g) w5 w6 := hS5.trans (hf6.mono (fun _ _ h => h.elim))
  have HB5 : Hid (Blk w6 g 5 (bts tt).toArray) := HB4.out.drew.fr hf6 (fun h => h)
  clear hf6
  refine ⟨_, ?a3r7, rfl, ?b3r7, (fun _ => hT5), ?_⟩
  case b3r7 => (simp only [Act.put, List.setIfInBounds_toArray, List.set_cons_zero, List.set_cons_succ]; rfl)
  refine Rg.op 4 (some 33) hT5 (v := (.int .u64 (crcN tt : Nat))) (hy := fun wz hwz => ?h4r7) (h := ?_)
  case h4r7 => (have hcr2 := wrap_nat (n := crcN tt) (by omega); go_simp; try with_reducible rfl)
  refine Rg.call 5 (some 34) (hrun := ?h5r7) (hcall := pgPut_any g 28 4 484 tt (crcN tt) w6 HB5.out (by rw [HL5.out]; omega) (by omega) (by omega)) (h := ?_)
  case h5r7 => (go_simp)
  rintro e w7 ⟨rfl, hb7, hf7⟩
  have hT6 : Fr (fun b => b = g) w5 w7 := hT5.trans hf7
  rw [HQ.out] at hb7
  have HB7 := Lib.hid hb7
  clear hb7 hf7
  refine ⟨_, ?a5r7, rfl, ?b5r7, (fun _ => hT6), ?_⟩
  case b5r7 => (simp only [Act.put, List.setIfInBounds_toArray, List.set_cons_zero, List.set_cons_succ]; rfl)
  refine Rg.done _ (h := ?_)
  go_wp2
  go_ret
  rw [HGe.out]
  exact ⟨rfl, HB7.out, HF5.out.step hT6 (fun i hi h => by have := HWg.out; omega)⟩

set_option maxHeartbeats 1600000 in
set_option maxRecDepth 100000 in
theorem lot_any (turn n : Nat) (w : World) (h1 : turn < 18446744073709551616) (h2 : n < 9223372036854775808) :
    Calls Tryz.prog 64 #[.int .u64 turn, .int .i64 n] w fun e w' => e = .returned (.slice (some ⟨w.heap.size, 0, none⟩) 64 64) ∧ Blk w' w.heap.size 5 (bts (lotB turn n)).toArray ∧ Fr Nob w w' := by
  have hmk := makeP64
  have hwn := wrap_nat (n := n) (by omega)
  have hz0 : (zeroCells 64).setIfInBounds 0 (.int .u8 85) = (bts lotM).toArray := by
    unfold lotM
    rw [← bts_set, zeroCells_eq]; rfl
  have c00 : (zeroCells 64)[0]? = some (.int .u8 0) := by rw [zeroCells_eq, List.getElem?_toArray, bts_get]; rfl
  have HB0 : Hid (Blk (w.alloc (.cells ((zeroCells 64).setIfInBounds 0 (.int .u8 85)) 5)) w.heap.size 5 (bts lotM).toArray) := by
    show Blk _ _ _ _
    rw [hz0]; exact Blk.new w _ _
  have HF0 : Hid (Fr Nob w (w.alloc (.cells ((zeroCells 64).setIfInBounds 0 (.int .u8 85)) 5))) := (Fr.refl _ w).alloc _
  clear hz0
  go_enter Tryz.func64, Tryz.ntmps64
  go_wp2_with fail
  refine (pgPut_any w.heap.size 8 8 56 lotM n _ HB0.out (by rw [lotM_length]; omega) (by omega) (by omega)).mono ?_
  rintro e w1 ⟨rfl, hb1, hf1⟩
  have HB1 : Hid (Blk w1 w.heap.size 5 (bts (lotN n)).toArray) := hb1
  have HF1 : Hid (Fr Nob w w1) := HF0.out.step hf1 (fun i hi e => by omega)
  clear hb1 hf1 c00 HB0 HF0
  go_wp2_with fail
  refine (pgPut_any w.heap.size 16 8 48 (lotN n) turn _ HB1.out (by rw [lotN_length]; omega) h1 (by omega)).mono ?_
  rintro e w2 ⟨rfl, hb2, hf2⟩
  have HB2 : Hid (Blk w2 w.heap.size 5 (bts (lotT turn n)).toArray) := hb2
  have HF2 : Hid (Fr Nob w w2) := HF1.out.step hf2 (fun i hi e => by omega)
  clear hb2 hf2 HB1 HF1
  have hl4 := lotT_length turn n
  have hcr := crcN_lt (lotT turn n)
  have HQ : Hid (splice (lotT turn n) 28 (putB 4 (crcN (lotT turn n))) = lotB turn n) := rfl
  have HL4 := Lib.hid hl4
  clear hl4
  generalize lotT turn n = tt at *
  obtain ⟨g, hg⟩ : ∃ g, w.heap.size = g := ⟨_, rfl⟩
  have HGe := Lib.hid hg
  have HWg : Hid (w.heap.size ≤ g) := Nat.le_of_eq hg
  rw [hg] at HB2 ⊢
  clear hg hmk hwn
  go_wp2
  have hS5 : Fr (fun b => b = g) w2 w2.drew := (Fr.refl _ w2).drew
  refine Rg.begin (Fr (fun b => b = g) w2) [] (by kernel_rfl) ?_
  refine Rg.op 0 (some 18) hS5 (v := ?v0r5) (hy := fun wz hwz => ?h0r5) (h := ?_)
  case h0r5 => (go_simp; try with_reducible rfl)
  refine Rg.op 1 (some 19) hS5 (v := ?v1r5) (hy := fun wz hwz => ?h1r5) (h := ?_)
  case h1r5 => (go_simp; try with_reducible rfl)
  refine Rg.op 2 (some 20) hS5 (v := ?v2r5) (hy := fun wz hwz => ?h2r5) (h := ?_)
  case h2r5 => (go_simp; try with_reducible rfl)
  refine Rg.call 3 (some 21) (hrun := ?h3r5) (hcall := crcAt HB2.out.drew HL4.out (by omega)) (h := ?_)
  case h3r5 => (go_simp)
  rintro e w6 ⟨rfl, hf6⟩
  have hT5 : Fr (fun b => b = g) w2 w6 := hS5.trans (hf6.mono (fun _ _ h => h.elim))
  have HB5 : Hid (Blk w6 g 5 (bts tt).toArray) := HB2.out.drew.fr hf6 (fun h => h)
  clear hf6
  refine ⟨_, ?a3r5, rfl, ?b3r5, (fun _ => hT5), ?_⟩
  case b3r5 => (simp only [Act.put, List.setIfInBounds_toArray, List.set_cons_zero, List.set_cons_succ]; rfl)
  refine Rg.op 4 (some 22) hT5 (v := (.int .u64 (crcN tt : Nat))) (hy := fun wz hwz => ?h4r5) (h := ?_)
  case h4r5 => (have hcr2 := wrap_nat (n := crcN tt) (by omega); go_simp; try with_reducible rfl)
  refine Rg.call 5 (some 23) (hrun := ?h5r5) (hcall := pgPut_any g 28 4 36 tt (crcN tt) w6 HB5.out (by rw [HL4.out]; omega) (by omega) (by omega)) (h := ?_)
  case h5r5 => (go_simp)
  rintro e w7 ⟨rfl, hb7, hf7⟩
  have hT6 : Fr (fun b => b = g) w2 w7 := hT5.trans hf7
  rw [HQ.out] at hb7
  have HB7 := Lib.hid hb7
  clear hb7 hf7
  refine ⟨_, ?a5r5, rfl, ?b5r5, (fun _ => hT6), ?_⟩
  case b5r5 => (simp only [Act.put, List.setIfInBounds_toArray, List.set_cons_zero, List.set_cons_succ]; rfl)
  refine Rg.done _ (h := ?_)
  go_wp2
  go_ret
  rw [HGe.out]
  exact ⟨rfl, HB7.out, HF2.out.step hT6 (fun i hi h => by have := HWg.out; omega)⟩
end Go.Proofs.YtccmmnacejdeoaaGreatDoor
