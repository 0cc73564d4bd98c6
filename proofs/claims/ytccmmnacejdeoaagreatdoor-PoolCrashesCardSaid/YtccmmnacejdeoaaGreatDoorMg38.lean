/-
  PoolWorld, CrWorld, PgDataB, PoolAwake, in one text.
-/
import Derived.Test.YtccmmnacejdeoaaGreatDoorMg35
import Derived.Test.YtccmmnacejdeoaaGreatDoorMg29
import Derived.Test.YtccmmnacejdeoaaGreatDoorMg37
import Derived.Test.YtccmmnacejdeoaaGreatDoorMg30
import Derived.Test.YtccmmnacejdeoaaGreatDoorMg20
import Derived.Test.YtccmmnacejdeoaaGreatDoorMg22
import Derived.Lib.SlBytesConst
/-
  A made world, call by call (PW).
-/
namespace Go.Proofs.YtccmmnacejdeoaaGreatDoor
set_option linter.unusedSimpArgs false
set_option linter.unusedVariables false
open Go.RowKit Go.Maps

section
variable {U F : Nat → Prop} {w w' : World} {g d f l p : Nat}
theorem World5.cf (h : World5 w g d f l p) : w.cell? ⟨g, 1, none⟩ = some (.pointer (some ⟨f, 0, none⟩)) := by
  have := Blk.cell h 1
  simpa [w5cells] using this
theorem World5.cl (h : World5 w g d f l p) : w.cell? ⟨g, 2, none⟩ = some (.pointer (some ⟨l, 0, none⟩)) := by
  have := Blk.cell h 2
  simpa [w5cells] using this
theorem World5.cp (h : World5 w g d f l p) : w.cell? ⟨g, 3, none⟩ = some (.pointer (some ⟨p, 0, none⟩)) := by
  have := Blk.cell h 3
  simpa [w5cells] using this
/-- A world that was made since w0, as its pool has it now. -/
structure PW (w0 w : World) (U : Nat → Prop) (g d f l p : Nat) (frames : Int) (V : Nat → PgV) (L : LS) (M N : Nat) (Dt : Nat → Prop) : Prop where
  wld : World5 w g d f l p
  ok : PoolOk U w p f l d 8 frames V L M N Dt
  hi : ∀ b, U b → w0.heap.size ≤ b
  ng : ¬ U g
  gg : w0.heap.size ≤ g
  fr : Fr Nob w0 w
  lo : ∀ b, U b → b < w.heap.size
variable {w0 : World} {frames : Int} {V : Nat → PgV} {L : LS} {M N : Nat} {Dt : Nat → Prop}
theorem PW.lt (h : PW w0 w U g d f l p frames V L M N Dt) : g < w.heap.size := Blk.lt h.wld
theorem PW.new (h : PW w0 w U g d f l p frames V L M N Dt) (hf : Fr Nob w w') : PW w0 w' U g d f l p frames V L M N Dt :=
  ⟨Blk.fr h.wld hf (fun h => h), h.ok.new hf, h.hi, h.ng, h.gg, h.fr.trans hf, fun b hb => Nat.lt_of_lt_of_le (h.lo b hb) hf.size⟩
theorem PW.step (h : PW w0 w U g d f l p frames V L M N Dt) {U' : Nat → Prop} {V' : Nat → PgV} {L' : LS} {M' N' : Nat} {Dt' : Nat → Prop} (hok : PoolOk U' w' p f l d 8 frames V' L' M' N' Dt') (hs : ∀ b, U' b → U b ∨ w.heap.size ≤ b) (hf : Fr U w w') : PW w0 w' (fun b => U' b ∧ b < w'.heap.size) g d f l p frames V' L' M' N' Dt' := by
  have hz := h.fr.size
  refine ⟨Blk.fr h.wld hf h.ng, hok.trim, fun b hb => ?_, fun e => ?_, h.gg, h.fr.step hf (fun i hi e => ?_), fun b hb => hb.2⟩
  · rcases hs b hb.1 with e | e
    · exact h.hi b e
    · omega
  · rcases hs g e.1 with e | e
    · exact h.ng e
    · have := h.lt; omega
  · have := h.hi i e; omega
theorem PW.dmono (h : PW w0 w U g d f l p frames V L M N Dt) {Dt' : Nat → Prop} (hd : ∀ k, Dt k → Dt' k) : PW w0 w U g d f l p frames V L M N Dt' :=
  ⟨h.wld, h.ok.dmono hd, h.hi, h.ng, h.gg, h.fr, h.lo⟩
theorem made5_pw (frames : Int) (w : World) (h1 : 1 ≤ frames) (h2 : frames ≤ 64) :
    Calls Tryz.prog 6 #[.int .i64 frames] w fun e w' => ∃ g d f l p U, e = .returned (.pointer (some ⟨g, 0, none⟩)) ∧ PW w w' U g d f l p frames V0 (LS.empty 144 80) 0 0 (fun _ => False) := by
  refine (made5_any frames w h1 h2).mono ?_
  rintro e w' ⟨g, d, f, l, p, U, rfl, h1, h2, h3, h4, h5, h6⟩
  exact ⟨g, d, f, l, p, _, rfl, h1, h2.trim, fun b hb => h3 b hb.1, fun e => h5 e.1, h4, h6, fun b hb => hb.2⟩
end
end Go.Proofs.YtccmmnacejdeoaaGreatDoor

/-
  The law's world on a disk that may die, call by call (CW); behind the disk's death (CL).
-/
namespace Go.Proofs.YtccmmnacejdeoaaGreatDoor
set_option linter.unusedSimpArgs false
set_option linter.unusedVariables false
open Go.RowKit Go.Maps

/-- What a call of the pool answers: 50 where the disk died. -/
def ecode (cb : Bool) : Int := bif cb then 50 else 0
structure CW (w0 w : World) (U : Nat → Prop) (g d f l p : Nat) (frames : Int) (i M : Nat) : Prop where
  wld : World5 w g d f l p
  pc : PC U w p f l d frames i M
  hi : ∀ b, U b → w0.heap.size ≤ b
  ng : ¬ U g
  gg : w0.heap.size ≤ g
  fr : Fr Nob w0 w
  lo : ∀ b, U b → b < w.heap.size
/-- The disk, dead or not: what it holds is safe. -/
def CL (w0 w : World) (g d : Nat) : Prop := ∃ S RD, DiskOk RD w d S ∧ Safe S ∧ (∀ b, RD b → w0.heap.size ≤ b ∧ b ≠ g) ∧ w.cell? ⟨g, 0, none⟩ = some (.pointer (some ⟨d, 0, none⟩)) ∧ w0.heap.size ≤ g ∧ Fr Nob w0 w
section
variable {w0 w w' : World} {U : Nat → Prop} {g d f l p : Nat} {frames : Int} {i M : Nat}
theorem World5.cd (h : World5 w g d f l p) : w.cell? ⟨g, 0, none⟩ = some (.pointer (some ⟨d, 0, none⟩)) := by
  have := Blk.cell h 0
  simpa [w5cells] using this
theorem CW.lt (h : CW w0 w U g d f l p frames i M) : g < w.heap.size := Blk.lt h.wld
theorem CW.new (h : CW w0 w U g d f l p frames i M) (hf : Fr Nob w w') : CW w0 w' U g d f l p frames i M :=
  ⟨Blk.fr h.wld hf (fun h => h), h.pc.new hf, h.hi, h.ng, h.gg, h.fr.trans hf, fun b hb => Nat.lt_of_lt_of_le (h.lo b hb) hf.size⟩
theorem CW.more (h : CW w0 w U g d f l p frames i M) {K : Nat} (hK : M ≤ K) (h1 : K ≤ 1000000000000000000) : CW w0 w U g d f l p frames i K := { h with pc := h.pc.more hK h1 }
theorem CW.step (h : CW w0 w U g d f l p frames i M) {U' : Nat → Prop} {i' M' : Nat} (hok : PC U' w' p f l d frames i' M') (hs : ∀ b, U' b → U b ∨ w.heap.size ≤ b) (hf : Fr U w w') : CW w0 w' (fun b => U' b ∧ b < w'.heap.size) g d f l p frames i' M' := by
  have hz := h.fr.size
  refine ⟨Blk.fr h.wld hf h.ng, hok.mono (fun b hb hl => ⟨hb, hl⟩), fun b hb => ?_, fun e => ?_, h.gg, h.fr.step hf (fun i hi e => ?_), fun b hb => hb.2⟩
  · rcases hs b hb.1 with e | e
    · exact h.hi b e
    · omega
  · rcases hs g e.1 with e | e
    · exact h.ng e
    · have := h.lt; omega
  · have := h.hi i e; omega
theorem CW.rest (h : CW w0 w U g d f l p frames i M) : CL w0 w g d := by
  obtain ⟨S, RD, h1, h2, h3⟩ := h.pc.rest
  exact ⟨S, RD, h1, h2, fun b hb => ⟨h.hi b (h3 b hb), fun e => h.ng (e ▸ h3 b hb)⟩, h.wld.cd, h.gg, h.fr⟩
theorem CW.lost (h : CW w0 w U g d f l p frames i M) (k : LostE w w' d U U) : CL w0 w' g d := by
  obtain ⟨S, RD, h1, h2, h3, h4⟩ := k
  have hz := h.fr.size
  have hl := h.lt
  refine ⟨S, RD, h1, h2, fun b hb => ?_, World5.cd (f := f) (l := l) (p := p) (Blk.fr h.wld h4 h.ng), h.gg, h.fr.step h4 (fun i hi e => by have := h.hi i e; omega)⟩
  rcases h3 b hb with e | e
  · exact ⟨h.hi b e, fun e2 => h.ng (e2 ▸ e)⟩
  · exact ⟨by omega, by omega⟩
/-- What a call leaves: the world goes on, or the disk died. -/
def CNext (w0 w w' : World) (U : Nat → Prop) (g d f l p : Nat) (frames : Int) (i M : Nat) (cb : Bool) : Prop :=
  Fr U w w' ∧ (cb = false → ∃ U', CW w0 w' U' g d f l p frames i M ∧ ∀ b, U' b → U b ∨ w.heap.size ≤ b) ∧ (cb = true → CL w0 w' g d)
theorem CW.next (h : CW w0 w U g d f l p frames i M) {fn : Nat} {args : Array Value} {i' M' : Nat}
    (hc : Calls Tryz.prog fn args w fun e w' => (e = .returned (.int .i64 0) ∧ ∃ U', PC U' w' p f l d frames i' M' ∧ (∀ b, U' b → U b ∨ w.heap.size ≤ b) ∧ Fr U w w') ∨ (e = .returned (.int .i64 50) ∧ LostE w w' d U U)) :
    Calls Tryz.prog fn args w fun e w' => ∃ cb, e = .returned (.int .i64 (ecode cb)) ∧ CNext w0 w w' U g d f l p frames i' M' cb := by
  refine hc.mono ?_
  rintro e w' (⟨rfl, U', h1, h2, h3⟩ | ⟨rfl, hl⟩)
  · exact ⟨false, rfl, h3, fun _ => ⟨_, h.step h1 h2 h3, fun b hb => h2 b hb.1⟩, (fun e => by cases e)⟩
  · have hf : Fr U w w' := by obtain ⟨_, _, _, _, _, hf⟩ := hl; exact hf
    exact ⟨true, rfl, hf, (fun e => by cases e), fun _ => h.lost hl⟩
theorem CW.put (h : CW w0 w U g d f l p frames i M) (x : PgV) (kb ko c : Nat) (hb : Bsl w (some ⟨kb, ko, none⟩) c x.d) (hok : x.Ok) (hno : x.no < 8) (hls : x.lsn ≤ i) (hkd : ∃ n, x.d = dataB n) (hkb : ¬ U kb) (hM : M + 1 ≤ 1000000000000000000) :
    Calls Tryz.prog 8 #[.pointer (some ⟨p, 0, none⟩), .agg #[.int .i64 x.no, .int .u64 x.lsn, .slice (some ⟨kb, ko, none⟩) 480 c]] w fun e w' => ∃ cb, e = .returned (.int .i64 (ecode cb)) ∧ CNext w0 w w' U g d f l p frames i (M + 1) cb :=
  h.next (h.pc.put x kb ko c hb hok hno hls hkd hkb hM)
theorem CW.evict (h : CW w0 w U g d f l p frames i M) (no : Nat) (hno : no < 8) (hM : M + 1 ≤ 1000000000000000000) :
    Calls Tryz.prog 10 #[.pointer (some ⟨p, 0, none⟩), .int .i64 no] w fun e w' => ∃ cb, e = .returned (.int .i64 (ecode cb)) ∧ CNext w0 w w' U g d f l p frames i (M + 1) cb :=
  h.next (h.pc.evict no hno hM)
theorem CW.flush (h : CW w0 w U g d f l p frames i M) (hM : M + 8 ≤ 1000000000000000000) :
    Calls Tryz.prog 14 #[.pointer (some ⟨p, 0, none⟩)] w fun e w' => ∃ cb, e = .returned (.int .i64 (ecode cb)) ∧ CNext w0 w w' U g d f l p frames i (M + 8) cb :=
  h.next (h.pc.flush hM)
theorem CW.append (h : CW w0 w U g d f l p frames i M) (a : Addr) (c : Nat) (x : UInt8) (hb : BytesIn w (some a) [x]) (ha : a.block < w.heap.size) (hi : i < 100) :
    Calls Tryz.prog 12 #[.pointer (some ⟨l, 0, none⟩), .slice (some a) 1 c] w fun e w' => e = .returned (.tuple #[.int .u64 ((i + 1 : Nat) : Int), .int .i64 0]) ∧ (∃ U', CW w0 w' U' g d f l p frames (i + 1) M ∧ ∀ b, U' b → U b ∨ w.heap.size ≤ b) ∧ Fr U w w' := by
  refine (h.pc.append a c x hb ha hi).mono ?_
  rintro e w' ⟨rfl, U', h1, h2, h3⟩
  exact ⟨rfl, ⟨_, h.step h1 h2 h3, fun b hb => h2 b hb.1⟩, h3⟩
theorem CW.fuse (h : CW w0 w U g d f l p frames i M) (n : Int) (hn : -9223372036854775808 ≤ n) (hn2 : n ≤ 9223372036854775807) :
    Calls Tryz.prog 16 #[.pointer (some ⟨d, 0, none⟩), .int .i64 n] w fun e w' => e = .returned (.tuple #[]) ∧ CW w0 w' U g d f l p frames i M := by
  refine (h.pc.fuse n hn hn2).mono ?_
  rintro e w' ⟨rfl, h1, h3⟩
  exact ⟨rfl, Blk.fr h.wld h3 h.ng, h1, h.hi, h.ng, h.gg, h.fr.step h3 (fun i hi e => by have := h.hi i e; omega), fun b hb => Nat.lt_of_lt_of_le (h.lo b hb) h3.size⟩
end
theorem made5_cw (frames : Int) (w : World) (h1 : 1 ≤ frames) (h2 : frames ≤ 64) :
    Calls Tryz.prog 6 #[.int .i64 frames] w fun e w' => ∃ g d f l p U, e = .returned (.pointer (some ⟨g, 0, none⟩)) ∧ CW w w' U g d f l p frames 0 0 := by
  refine (made5C frames w h1 h2).mono ?_
  rintro e w' ⟨g, d, f, l, p, U, rfl, h1, h2, h3, h4, h5, h6⟩
  exact ⟨g, d, f, l, p, fun b => U b ∧ b < w'.heap.size, rfl, h1, h2.mono (fun b hb hl => ⟨hb, hl⟩), fun b hb => h3 b hb.1, fun e => h5 e.1, h4, h6, fun b hb => hb.2⟩
end Go.Proofs.YtccmmnacejdeoaaGreatDoor

/-
  480 bytes by a number.
-/
namespace Go.Proofs.YtccmmnacejdeoaaGreatDoor
set_option linter.unusedSimpArgs false
set_option linter.unusedVariables false
open Go.RowKit

set_option maxHeartbeats 1600000 in
set_option maxRecDepth 100000 in
theorem Data_any (n : Nat) (w : World) (hn : n ≤ 100000) :
    Calls Tryz.prog 13 #[.int .i64 n] w fun e w' => e = .returned (.slice (some ⟨w.heap.size, 0, none⟩) 480 480) ∧ Blk w' w.heap.size 5 (bts (dataB n)).toArray ∧ Fr Nob w w' := by
  have hmk := make480
  have qL := len_by
  have hb0 : Blk (w.alloc (.cells (zeroCells 480) 5)) w.heap.size 5 (bts (dataK n 0)).toArray := by rw [dataK_zero, ← zeroCells_eq]; exact Blk.new _ _ _
  have HB0 := Lib.hid hb0
  have HF0 : Hid (Fr Nob w (w.alloc (.cells (zeroCells 480) 5))) := (Fr.refl _ w).alloc _
  obtain ⟨g, hg⟩ : ∃ g, w.heap.size = g := ⟨_, rfl⟩
  have HG := Lib.hid hg
  rw [hg] at HB0 ⊢
  clear hb0
  go_enter Tryz.func13, Tryz.ntmps13
  go_wp2
  try (rw [qL]; go_wp2)
  clear hg
  go_loopw [4, 8] (fun _ iv wr => ∃ k : Nat, k ≤ 480 ∧ iv = .int .i64 k ∧ Hid (Blk wr g 5 (bts (dataK n k)).toArray) ∧ Hid (Fr Nob w wr)) (fun _ iv _ => 480 - (intOf iv).toNat)
  case atStart => exact ⟨0, by omega, rfl, HB0.out, HF0.out⟩
  case round =>
    clear HB0 HF0
    obtain ⟨k, hk, rfl, hB, hF⟩ := hrel
    by_cases hlt : k < 480
    · have hlen : k < (dataK n k).length := by rw [dataK_length]; exact hlt
      have ck := Blk.cell hB.out k
      have fk := Blk.frozen hB.out k
      have hgl := hB.out.lt
      rw [List.getElem?_toArray, bts_get, List.getElem?_eq_getElem hlen, Option.map_some] at ck
      have e1 : (k : Int).tmod 7 = ((k % 7 : Nat) : Int) := by rw [Int.tmod_eq_emod_of_nonneg (by omega)]; omega
      have e2 : IntKind.i64.wrap (((k % 7 : Nat) : Int) + 1) = ((k % 7 + 1 : Nat) : Int) := by rw [IntKind.wrap_i64]; omega
      have hb7 : k % 7 + 1 ≤ 7 := by omega
      have hmul : n * (k % 7 + 1) ≤ 700000 := Nat.le_trans (Nat.mul_le_mul hn hb7) (by decide)
      have e3 : IntKind.i64.wrap ((n : Int) * ((k % 7 + 1 : Nat) : Int)) = ((n * (k % 7 + 1) : Nat) : Int) := by rw [← Int.natCast_mul, IntKind.wrap_i64]; omega
      have e4 : IntKind.u8.wrap ((n * (k % 7 + 1) : Nat) : Int) = ((dataAt n k).toNat : Int) := by
        rw [show IntKind.u8.wrap ((n * (k % 7 + 1) : Nat) : Int) = ((n * (k % 7 + 1) : Nat) : Int) % 256 from rfl]
        unfold dataAt
        rw [UInt8.toNat_ofNat']
        omega
      have e0 : IntKind.i64.wrap ((k : Int).tmod 7) = ((k % 7 : Nat) : Int) := by rw [e1, IntKind.wrap_i64]; omega
      have e5 : wrap64 ((n : Int) * ((k : Int) % 7 + 1)) % 256 = ((dataAt n k).toNat : Int) := by
        have e6 : (k : Int) % 7 + 1 = ((k % 7 + 1 : Nat) : Int) := by omega
        rw [e6, ← Int.natCast_mul, show wrap64 ((n * (k % 7 + 1) : Nat) : Int) = ((n * (k % 7 + 1) : Nat) : Int) from by unfold wrap64; omega]; exact e4
      have HSet : Hid (Blk (wr.setCell ⟨g, k, none⟩ (.int .u8 (dataAt n k).toNat)) g 5 (bts (dataK n (k + 1))).toArray) := by
        have := hB.out.set_ k (.int .u8 (dataAt n k).toNat)
        rw [bts_set] at this
        rw [dataK_succ n k hlt]; exact this
      have HFs : Hid (Fr Nob w (wr.setCell ⟨g, k, none⟩ (.int .u8 (dataAt n k).toNat))) := hF.out.setCell (p := ⟨g, k, none⟩) (.inl (by rw [HG.out]; exact Nat.le_refl _)) _
      generalize (dataK n k)[k] = old at ck
      clear hB hF hlen
      go_wp2
      go_roundw
      case rel => exact ⟨k + 1, by omega, by go_num, HSet.out, HFs.out⟩
      case measure => simp [intOf]; omega
    · obtain rfl : k = 480 := by omega
      have HBf := Lib.hid hB.out
      rw [dataK_full] at HBf
      clear hB
      go_wp2
      go_ret
      exact ⟨rfl, HBf.out, hF.out⟩
end Go.Proofs.YtccmmnacejdeoaaGreatDoor

/-
  awake of the statements on pools.
-/
namespace Go.Proofs.YtccmmnacejdeoaaGreatDoor
set_option linter.unusedSimpArgs false
set_option linter.unusedVariables false
open Go.RowKit Go.Maps

theorem len_ints5 (w : World) (A : Option Addr) (n c : Nat) : (Builtin.len_ #[55] 3 #[Value.slice A n c]).run Tryz.prog w = .ok (.int .i64 n) w := by go_simp
set_option maxHeartbeats 6400000 in
set_option maxRecDepth 100000 in
theorem awake5_any (w : World) : Calls Tryz.prog 11 #[] w fun e w' => e = .returned (.bool true) ∧ Fr Nob w w' := by
  have qL := len_ints5
  have kc := fun (w : World) (C : Array Value) (n c : Nat) => Lib.run_convert_bytes_const (P := Tryz.prog) w 38 5 C n c Tryz.underlying38 Tryz.underlying5
  have HMd : Hid (∀ W, Calls Tryz.prog 6 #[.int .i64 2] W fun e w' => ∃ g d f l p U, e = .returned (.pointer (some ⟨g, 0, none⟩)) ∧ PW W w' U g d f l p 2 V0 (LS.empty 144 80) 0 0 (fun _ => False)) := fun W => made5_pw 2 W (by omega) (by omega)
  have HDt : Hid (∀ W, Calls Tryz.prog 13 #[.int .i64 9] W fun e w' => e = .returned (.slice (some ⟨W.heap.size, 0, none⟩) 480 480) ∧ Blk w' W.heap.size 5 (bts (dataB 9)).toArray ∧ Fr Nob W w') := fun W => Data_any 9 W (by omega)
  have hd9 : (dataB 9).length = 480 := dataB_length 9
  go_enter Tryz.func11, Tryz.ntmps11
  go_wp2_with fail
  refine (HMd.out w).mono ?_
  rintro e w1 ⟨g, d, f, l, p, U1, rfl, hp1⟩
  have HP1 := Lib.hid hp1
  have c1 := hp1.wld.cl
  have gz := hp1.lt
  clear hp1
  go_wp2_with fail
  have hfa : Fr Nob w1 (w1.alloc (.cells #[.int .u8 120] 5 (1, 2))) := (Fr.refl _ w1).alloc _
  have hbi : BytesIn (w1.alloc (.cells #[.int .u8 120] 5 (1, 2))) (some ⟨w1.heap.size, 0, none⟩) [120] := bytesIn_lit w1 [120] (1, 2)
  have hpa := HP1.out.new hfa
  have hap := hpa.ok.append ⟨w1.heap.size, 0, none⟩ 1 [120] hbi (by simp) (by decide) (by decide) (by omega)
  rw [show ([120] : List UInt8).length = 1 from rfl, show (LS.empty 144 80).next = 1 from rfl] at hap
  have HAp := Lib.hid hap
  have HPa := Lib.hid hpa
  clear hap hbi hpa hfa c1
  refine HAp.out.mono ?_
  rintro e w2 ⟨rfl, U2, hok2, hs2, hf2⟩
  have hp2 := HPa.out.step hok2 hs2 hf2
  have HP2 := Lib.hid hp2
  have c2 := hp2.wld.cp
  have gz2 := hp2.lt
  have hn2 : ((LS.empty 144 80).add [120]).next = 2 := rfl
  obtain ⟨L2, hL2⟩ : ∃ L, (LS.empty 144 80).add [120] = L := ⟨_, rfl⟩
  rw [hL2] at HP2 hn2
  have HN2 := Lib.hid hn2
  clear hp2 hok2 hs2 hf2 HAp HPa hL2 hn2 gz
  go_wp2
  have hS : Fr Nob w2 w2.drew := (Fr.refl _ w2).drew
  refine Rg.begin (Fr Nob w2) [7, 8] (by kernel_rfl) ?_
  refine Rg.op 0 (some 21) hS (v := ?v0a) (hy := fun wz hwz => ?h0a) (h := ?_)
  case h0a => (go_simp; try with_reducible rfl)
  refine Rg.op 1 (some 22) hS (v := ?v1a) (hy := fun wz hwz => ?h1a) (h := ?_)
  case h1a => (have hpp := Nat.lt_of_lt_of_le gz2 hwz.size; go_simp; try with_reducible rfl)
  refine Rg.op 2 (some 23) hS (v := ?v2a) (hy := fun wz hwz => ?h2a) (h := ?_)
  case h2a => (have hpp := Nat.lt_of_lt_of_le gz2 hwz.size; go_simp; try with_reducible rfl)
  refine Rg.op 3 (some 24) hS (v := (.pointer (some ⟨p, 0, none⟩))) (hy := fun wz hwz => ?h3a) (h := ?_)
  case h3a => (have cx := (hwz.cell (p := ⟨g, 3, none⟩) gz2 (fun h => h)).trans c2; have hpp := Nat.lt_of_lt_of_le gz2 hwz.size; go_simp; try with_reducible rfl)
  refine Rg.op 4 (some 25) hS (v := ?v4a) (hy := fun wz hwz => ?h4a) (h := ?_)
  case h4a => (go_simp; try with_reducible rfl)
  refine Rg.call 5 (some 26) (hrun := ?h5a) (hcall := HDt.out _) (h := ?_)
  case h5a => (go_simp)
  rintro e wd ⟨rfl, hbd, hfd⟩
  have hSd : Fr Nob w2 wd := hS.trans hfd
  clear hfd
  obtain ⟨gd, hgd⟩ : ∃ s, w2.drew.heap.size = s := ⟨_, rfl⟩
  rw [hgd] at hbd ⊢
  have hgl : w2.heap.size ≤ gd := by rw [← hgd]; simp
  have HBd := Lib.hid hbd
  clear hgd hbd
  refine ⟨_, ?a5a, rfl, ?b5a, (fun _ => hSd), ?_⟩
  case b5a => (simp only [Act.put, List.setIfInBounds_toArray, List.set_cons_zero, List.set_cons_succ]; rfl)
  refine Rg.op 6 (some 27) hSd (v := ?v6a) (hy := fun wz hwz => ?h6a) (h := ?_)
  case h6a => (go_simp; try with_reducible rfl)
  have hpb := HP2.out.new hSd
  have hput := hpb.ok.put ⟨3, 1, dataB 9⟩ gd 0 480 ⟨bytesIn_of HBd.out, by show (dataB 9).length ≤ 480; omega, fun a ha => by injection ha with ha; subst ha; exact HBd.out.lt⟩ ⟨by show 3 < 100000; omega, by show 1 < 18446744073709551616; omega, hd9⟩ (by show 3 < 8; omega) (by show 1 < L2.next; rw [HN2.out]; omega) (fun e => by have := HP2.out.lo _ e; omega) (by omega)
  have HPut := Lib.hid hput
  have HPb := Lib.hid hpb
  clear hput hpb
  refine Rg.call 7 (some 28) (hrun := ?h7a) (hcall := HPut.out) (h := ?_)
  case h7a => (go_simp)
  rintro e w3 ⟨rfl, U3, hok3, hs3, hf3⟩
  refine ⟨_, ?a7a, rfl, ?b7a, (fun h => absurd (by decide) h), ?_⟩
  case b7a => (simp only [Act.put, List.setIfInBounds_toArray, List.set_cons_zero, List.set_cons_succ]; rfl)
  refine Rg.late 8 (some 4) (v := ?v8a) (hrun := ?h8a) (h := ?_)
  case h8a => (go_simp; try with_reducible rfl)
  refine Rg.done _ (h := ?_)
  have hp3 := HPb.out.step hok3 hs3 hf3
  have HP3 := Lib.hid hp3
  have c3 := hp3.wld.cp
  have gz3 := hp3.lt
  have HEv := Lib.hid (hp3.ok.evict 3 (by omega) (by omega))
  clear hok3 hs3 hf3 HPb HPut hp3 hS hSd HP2 HP1 c2 gz2 HBd
  go_wp2_with fail
  refine HEv.out.mono ?_
  rintro e w4 ⟨rfl, U4, hok4, hs4, hf4⟩
  have hp4 := (HP3.out.step hok4 hs4 hf4).dmono (Dt' := fun _ => False) (fun k hk => by
    rcases hk.1 with h | h
    · exact h
    · exact hk.2 h)
  obtain ⟨V4, hV4⟩ : ∃ V, (fun no => if no = (⟨3, 1, dataB 9⟩ : PgV).no then (⟨3, 1, dataB 9⟩ : PgV) else V0 no) = V := ⟨_, rfl⟩
  have hV43 : V4 3 = ⟨3, 1, dataB 9⟩ := by rw [← hV4]; rfl
  rw [hV4] at hp4
  have c4 := hp4.wld.cp
  have gz4 := hp4.lt
  have hget := hp4.ok.get 3 (by omega) (by omega)
  rw [hV43] at hget
  have HGet := Lib.hid hget
  have HP4 := Lib.hid hp4
  clear hok4 hs4 hf4 hp4 hV4 hV43 hget HEv HP3 c3 gz3
  go_wp2_with fail
  refine HGet.out.mono ?_
  rintro e w5 ⟨gc, rfl, hc5, hgc, U5, hok5, hug, hs5, hf5⟩
  have hp5 := HP4.out.step hok5 hs5 hf5
  clear hok5 hs5 hf5 hug HGet HP4 c4 gz4
  have hbx : Blk (w5.alloc (.cells #[.int .i64 3, .int .u64 1, .slice (some ⟨gc, 0, none⟩) 480 480] 40)) w5.heap.size 40 #[.int .i64 3, .int .u64 1, .slice (some ⟨gc, 0, none⟩) 480 480] := Blk.new _ _ _
  have hfa : Fr Nob w5 (w5.alloc (.cells #[.int .i64 3, .int .u64 1, .slice (some ⟨gc, 0, none⟩) 480 480] 40)) := (Fr.refl _ w5).alloc _
  have hba : BytesIn (w5.alloc (.cells #[.int .i64 3, .int .u64 1, .slice (some ⟨gc, 0, none⟩) 480 480] 40)) (some ⟨gc, 0, none⟩) (dataB 9) := hc5.bytes.new hfa
  have hpa := hp5.new hfa
  obtain ⟨gb, hgb⟩ : ∃ s, w5.heap.size = s := ⟨_, rfl⟩
  obtain ⟨wa, hwa⟩ : ∃ W, w5.alloc (.cells #[.int .i64 3, .int .u64 1, .slice (some ⟨gc, 0, none⟩) 480 480] 40) = W := ⟨_, rfl⟩
  rw [hwa] at hbx hba hpa
  rw [hgb] at hbx
  have HBx := Lib.hid hbx
  have HBa := Lib.hid hba
  have HPa := Lib.hid hpa
  have c5 := hpa.wld.cp
  have gz5 := hpa.lt
  clear hbx hfa hba hpa hp5 hc5
  go_wp2
  try rw [hwa]
  try rw [hgb]
  clear hwa hgb
  have hS : Fr Nob wa wa.drew := (Fr.refl _ wa).drew
  refine Rg.begin (Fr Nob wa) [] (by kernel_rfl) ?_
  refine Rg.op 0 (some 42) hS (v := ?v0w) (hy := fun wz hwz => ?h0w) (h := ?_)
  case h0w => (go_simp; try with_reducible rfl)
  refine Rg.op 1 (some 43) hS (v := ?v1w) (hy := fun wz hwz => ?h1w) (h := ?_)
  case h1w => (go_simp; try with_reducible rfl)
  refine Rg.op 2 (some 44) hS (v := ?v2w) (hy := fun wz hwz => ?h2w) (h := ?_)
  case h2w => (go_simp; try with_reducible rfl)
  refine Rg.op 3 (some 45) hS (v := ?v3w) (hy := fun wz hwz => ?h3w) (h := ?_)
  case h3w => (go_simp; try with_reducible rfl)
  refine Rg.op 4 (some 46) hS (v := ?v4w) (hy := fun wz hwz => ?h4w) (h := ?_)
  case h4w => (go_simp; try with_reducible rfl)
  refine Rg.op 5 (some 47) hS (v := ?v5w) (hy := fun wz hwz => ?h5w) (h := ?_)
  case h5w => (go_simp; try with_reducible rfl)
  refine Rg.op 6 (some 48) hS (v := ?v6w) (hy := fun wz hwz => ?h6w) (h := ?_)
  case h6w => (go_simp; try with_reducible rfl)
  refine Rg.op 7 (some 49) hS (v := ?v7w) (hy := fun wz hwz => ?h7w) (h := ?_)
  case h7w => (go_simp; try with_reducible rfl)
  refine Rg.op 8 (some 50) hS (v := ?v8w) (hy := fun wz hwz => ?h8w) (h := ?_)
  case h8w => (go_simp; try with_reducible rfl)
  refine Rg.op 9 (some 51) hS (v := ?v9w) (hy := fun wz hwz => ?h9w) (h := ?_)
  case h9w => (go_simp; try with_reducible rfl)
  refine Rg.op 10 (some 52) hS (v := ?v10w) (hy := fun wz hwz => ?h10w) (h := ?_)
  case h10w => (go_simp; try with_reducible rfl)
  refine Rg.op 11 (some 53) hS (v := ?v11w) (hy := fun wz hwz => ?h11w) (h := ?_)
  case h11w => (go_simp; try with_reducible rfl)
  refine Rg.op 12 (some 54) hS (v := ?v12w) (hy := fun wz hwz => ?h12w) (h := ?_)
  case h12w => (go_simp; try with_reducible rfl)
  refine Rg.op 13 (some 55) hS (v := ?v13w) (hy := fun wz hwz => ?h13w) (h := ?_)
  case h13w => (go_simp; try with_reducible rfl)
  refine Rg.op 14 (some 56) hS (v := ?v14w) (hy := fun wz hwz => ?h14w) (h := ?_)
  case h14w => (go_simp; try with_reducible rfl)
  refine Rg.op 15 (some 57) hS (v := ?v15w) (hy := fun wz hwz => ?h15w) (h := ?_)
  case h15w => (go_simp; try with_reducible rfl)
  refine Rg.op 16 (some 58) hS (v := (.int .i64 3)) (hy := fun wz hwz => ?h16w) (h := ?_)
  case h16w => (have hb := HBx.out.fr hwz (fun h => h); have cc1 := Blk.cell hb 0; have hpp := Blk.lt hb; simp only [List.getElem?_toArray, List.getElem?_cons_zero, List.getElem?_cons_succ] at cc1; clear hb; go_simp; try with_reducible rfl)
  refine Rg.op 17 (some 59) hS (v := ?v17w) (hy := fun wz hwz => ?h17w) (h := ?_)
  case h17w => (go_simp; try with_reducible rfl)
  refine Rg.op 18 (some 60) hS (v := ?v18w) (hy := fun wz hwz => ?h18w) (h := ?_)
  case h18w => (go_simp; try with_reducible rfl)
  refine Rg.op 19 (some 61) hS (v := ?v19w) (hy := fun wz hwz => ?h19w) (h := ?_)
  case h19w => (go_simp; try with_reducible rfl)
  refine Rg.op 20 (some 62) hS (v := ?v20w) (hy := fun wz hwz => ?h20w) (h := ?_)
  case h20w => (go_simp; try with_reducible rfl)
  refine Rg.op 21 (some 63) hS (v := (.int .u64 1)) (hy := fun wz hwz => ?h21w) (h := ?_)
  case h21w => (have hb := HBx.out.fr hwz (fun h => h); have cc1 := Blk.cell hb 1; have hpp := Blk.lt hb; simp only [List.getElem?_toArray, List.getElem?_cons_zero, List.getElem?_cons_succ] at cc1; clear hb; go_simp; try with_reducible rfl)
  refine Rg.op 22 (some 64) hS (v := ?v22w) (hy := fun wz hwz => ?h22w) (h := ?_)
  case h22w => (go_simp; try with_reducible rfl)
  refine Rg.op 23 (some 65) hS (v := ?v23w) (hy := fun wz hwz => ?h23w) (h := ?_)
  case h23w => (go_simp; try with_reducible rfl)
  refine Rg.op 24 (some 66) hS (v := ?v24w) (hy := fun wz hwz => ?h24w) (h := ?_)
  case h24w => (go_simp; try with_reducible rfl)
  refine Rg.op 25 (some 67) hS (v := ?v25w) (hy := fun wz hwz => ?h25w) (h := ?_)
  case h25w => (go_simp; try with_reducible rfl)
  refine Rg.op 26 (some 68) hS (v := ?v26w) (hy := fun wz hwz => ?h26w) (h := ?_)
  case h26w => (go_simp; try with_reducible rfl)
  refine Rg.op 27 (some 69) hS (v := (.slice (some ⟨gc, 0, none⟩) 480 480)) (hy := fun wz hwz => ?h27w) (h := ?_)
  case h27w => (have hb := HBx.out.fr hwz (fun h => h); have cc1 := Blk.cell hb 2; have hpp := Blk.lt hb; simp only [List.getElem?_toArray, List.getElem?_cons_zero, List.getElem?_cons_succ] at cc1; clear hb; go_simp; try with_reducible rfl)
  refine Rg.op 28 (some 70) hS (v := ?v28w) (hy := fun wz hwz => ?h28w) (h := ?_)
  case h28w => (have y := conv_in (HBa.out.new hwz) 480; rw [hd9] at y; go_simp; try with_reducible rfl)
  refine Rg.call 29 (some 71) (hrun := ?h29w) (hcall := HDt.out _) (h := ?_)
  case h29w => (go_simp)
  rintro e wd ⟨rfl, hbd, hfd⟩
  have hSd : Fr Nob wa wd := hS.trans hfd
  have hbi := conv_in (bytesIn_of hbd) 480
  rw [hd9] at hbi
  clear hfd
  obtain ⟨gd, hgd⟩ : ∃ s, wa.drew.heap.size = s := ⟨_, rfl⟩
  rw [hgd] at hbi hbd ⊢
  clear hgd
  refine ⟨_, ?a29w, rfl, ?b29w, (fun _ => hSd), ?_⟩
  case b29w => (simp only [Act.put, List.setIfInBounds_toArray, List.set_cons_zero, List.set_cons_succ]; rfl)
  refine Rg.seq 30 (some 72) hSd (v := ?v30w) (hrun := ?h30w) (h := ?_)
  case h30w => (have y := hbi; go_simp; try with_reducible rfl)
  refine Rg.seq 31 (some 73) hSd (v := (.bool true)) (hrun := ?h31w) (h := ?_)
  case h31w => (go_simp; try with_reducible rfl)
  refine Rg.seq 32 (some 74) hSd (v := ?v32w) (hrun := ?h32w) (h := ?_)
  case h32w => (go_simp; try with_reducible rfl)
  refine Rg.seq 33 (some 75) hSd (v := ?v33w) (hrun := ?h33w) (h := ?_)
  case h33w => (go_simp; try with_reducible rfl)
  refine Rg.seq 34 (some 76) hSd (v := ?v34w) (hrun := ?h34w) (h := ?_)
  case h34w => (go_simp; try with_reducible rfl)
  refine Rg.seq 35 (some 77) hSd (v := ?v35w) (hrun := ?h35w) (h := ?_)
  case h35w => (have hwz := hSd; have hpp := Nat.lt_of_lt_of_le gz5 hwz.size; go_simp; try with_reducible rfl)
  refine Rg.seq 36 (some 78) hSd (v := ?v36w) (hrun := ?h36w) (h := ?_)
  case h36w => (have hwz := hSd; have hpp := Nat.lt_of_lt_of_le gz5 hwz.size; go_simp; try with_reducible rfl)
  refine Rg.seq 37 (some 79) hSd (v := (.pointer (some ⟨p, 0, none⟩))) (hrun := ?h37w) (h := ?_)
  case h37w => (have hwz := hSd; have cx := (hwz.cell (p := ⟨g, 3, none⟩) gz5 (fun h => h)).trans c5; have hpp := Nat.lt_of_lt_of_le gz5 hwz.size; go_simp; try with_reducible rfl)
  have HDy := Lib.hid (HPa.out.new hSd).ok.calmDirty
  refine Rg.call 38 (some 80) (hrun := ?h38w) (hcall := HDy.out) (h := ?_)
  case h38w => (go_simp)
  rintro e wn ⟨A, rfl, hfn⟩
  have hSn : Fr Nob wa wn := hSd.trans hfn
  refine ⟨_, ?a38w, rfl, ?b38w, (fun _ => hSn), ?_⟩
  case b38w => (simp only [Act.put, List.setIfInBounds_toArray, List.set_cons_zero, List.set_cons_succ]; rfl)
  refine Rg.seq 39 (some 81) hSn (v := (.int .i64 0)) (hrun := ?h39w) (h := ?_)
  case h39w => (have hq := qL; go_simp; try with_reducible rfl)
  refine Rg.seq 40 (some 82) hSn (v := ?v40w) (hrun := ?h40w) (h := ?_)
  case h40w => (go_simp; try with_reducible rfl)
  refine Rg.seq 41 (some 83) hSn (v := ?v41w) (hrun := ?h41w) (h := ?_)
  case h41w => (go_simp; try with_reducible rfl)
  refine Rg.seq 42 (some 0) hSn (v := ?v42w) (hrun := ?h42w) (h := ?_)
  case h42w => (go_simp; try with_reducible rfl)
  refine Rg.done _ (h := ?_)
  go_wp2
  go_ret
  exact ⟨rfl, HPa.out.fr.trans hSn⟩
end Go.Proofs.YtccmmnacejdeoaaGreatDoor
