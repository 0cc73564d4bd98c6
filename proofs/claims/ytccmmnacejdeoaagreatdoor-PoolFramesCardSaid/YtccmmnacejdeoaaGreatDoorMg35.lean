/-
  PoolMade2, PoolWorld, PoolAny, PoolFlOk, PoolPair, in one text.
-/
import Derived.Test.YtccmmnacejdeoaaGreatDoorMg32
import Derived.Test.YtccmmnacejdeoaaGreatDoorMg33
import Derived.Test.YtccmmnacejdeoaaGreatDoorMg34
/-
  made: a pool over a new disk, and what is noted of it.
-/
namespace Go.Proofs.YtccmmnacejdeoaaGreatDoor
set_option linter.unusedSimpArgs false
set_option linter.unusedVariables false
open Go.RowKit Go.Maps

def w5cells (d : Nat) (F L P : Value) : Array Value := #[.pointer (some ⟨d, 0, none⟩), F, L, P, .int .i64 0, .int .i64 0, .int .i64 0, .int .i64 0, .int .i64 0, .int .i64 0, .int .i64 0, .int .i64 0,
  .int .u64 0, .int .u64 0, .int .u64 0, .int .u64 0, .int .u64 0, .int .u64 0, .int .u64 0, .int .u64 0, .int .i64 0, .int .i64 0, .int .i64 0, .int .i64 0, .int .i64 0, .int .i64 0, .int .i64 0, .int .i64 0,
  .bool false, .bool false, .bool false, .bool false, .bool false, .bool false, .bool false, .bool false]
def World5 (w : World) (g d f l p : Nat) : Prop := Blk w g 36 (w5cells d (.pointer (some ⟨f, 0, none⟩)) (.pointer (some ⟨l, 0, none⟩)) (.pointer (some ⟨p, 0, none⟩)))
def V0 : Nat → PgV := fun no => ⟨no, 0, zeros 480⟩
set_option maxHeartbeats 3200000 in
set_option maxRecDepth 100000 in
theorem made5_any (frames : Int) (w : World) (h1 : 1 ≤ frames) (h2 : frames ≤ 64) :
    Calls Tryz.prog 6 #[.int .i64 frames] w fun e w' => ∃ g d f l p U, e = .returned (.pointer (some ⟨g, 0, none⟩)) ∧ World5 w' g d f l p ∧ PoolOk U w' p f l d 8 frames V0 (LS.empty 144 80) 0 0 (fun _ => False) ∧ (∀ b, U b → w.heap.size ≤ b) ∧ w.heap.size ≤ g ∧ ¬ U g ∧ Fr Nob w w' := by
  have HNe : Hid (∀ W, Calls Tryz.prog 20 #[.int .i64 8] W fun e w' => e = .returned (.int .i64 144) ∧ W = w') := fun W => Need_any 8 W (by omega) (by omega)
  have HNw : Hid (∀ W, Calls Tryz.prog 22 #[.int .i64 224] W fun e w' => ∃ p, e = .returned (.tuple #[.pointer (some ⟨p, 0, none⟩), .int .i64 0]) ∧ W.heap.size ≤ p ∧ DiskOk (fun b => W.heap.size ≤ b ∧ b < w'.heap.size) w' p (DS.new 224) ∧ Fr Nob W w') := fun W => New_good 224 W (by omega) (by omega)
  go_enter Tryz.func6, Tryz.ntmps6
  go_wp2_with fail
  refine (HNe.out _).mono ?_
  rintro e w1 ⟨rfl, rfl⟩
  go_wp2_with fail
  refine (HNw.out _).mono ?_
  rintro e w1 ⟨d, rfl, hd0, hd1, hf1⟩
  have HD1 := Lib.hid hd1
  have HF1 := Lib.hid hf1
  clear hd1 hf1 HNw
  go_wp2_with fail
  have hda : Fr Nob w1 (w1.alloc (.cells (w5cells d (.pointer none) (.pointer none) (.pointer none)) 36)) := (Fr.refl _ w1).alloc _
  have hba : Blk (w1.alloc (.cells (w5cells d (.pointer none) (.pointer none) (.pointer none)) 36)) w1.heap.size 36 (w5cells d (.pointer none) (.pointer none) (.pointer none)) := Blk.new _ _ _
  have hza : (w1.alloc (.cells (w5cells d (.pointer none) (.pointer none) (.pointer none)) 36)).heap.size = w1.heap.size + 1 := by simp
  have HOp := Lib.hid (Open_fresh (pages := 8) (HD1.out.new hda) (by omega) (by omega) (by omega))
  have HBa := Lib.hid hba
  have HFa := Lib.hid (HF1.out.trans hda)
  have HZa := Lib.hid hza
  obtain ⟨g, hg⟩ : ∃ g, w1.heap.size = g := ⟨_, rfl⟩
  obtain ⟨wa, hwa⟩ : ∃ W, w1.alloc (.cells (w5cells d (.pointer none) (.pointer none) (.pointer none)) 36) = W := ⟨_, rfl⟩
  rw [hwa] at HOp HBa HFa HZa
  rw [hg] at HBa HZa
  have HG := Lib.hid hg
  unfold w5cells at hwa
  rw [hwa]
  clear hda hba hza hwa
  refine HOp.out.mono ?_
  rintro e w2 ⟨f, R2, rfl, hf0, hf1, hfa2, hd2, hnf2, hsub2, hfr2⟩
  have HFile2 := Lib.hid hfa2
  have HNf2 := Lib.hid hnf2
  have HSub2 := Lib.hid hsub2
  have HFr2 := Lib.hid hfr2
  have HWal := Lib.hid (Open_new 144 80 hd2 (by omega) (by omega) (by omega))
  have HD2 := Lib.hid hd2
  clear hfa2 hnf2 hsub2 hfr2 hd2 HOp
  go_wp2_with fail
  refine (HNe.out _).mono ?_
  rintro e w3 ⟨rfl, rfl⟩
  go_wp2_with fail
  refine HWal.out.mono ?_
  rintro e w3 ⟨l, rfl, hl0, ⟨RL, RD, hwal, hRL, hRD⟩, hfr3⟩
  have HWi := Lib.hid hwal
  have HRL := Lib.hid hRL
  have HRD := Lib.hid hRD
  have HFr3 := Lib.hid hfr3
  have HPn := Lib.hid (PNew_good ⟨f, 0, none⟩ ⟨l, 0, none⟩ frames w3 h1 h2)
  clear hwal hRL hRD hfr3 HWal
  go_wp2_with fail
  refine HPn.out.mono ?_
  rintro e w4 ⟨rfl, hw4⟩
  have hz2 : wa.heap.size ≤ w2.heap.size := HFr2.out.size
  have hz3 : w2.heap.size ≤ w3.heap.size := HFr3.out.size
  have hwg := HZa.out
  have hgz := HG.out
  have h1z := HF1.out.size
  have hR2 : ∀ b, R2 b → (w.heap.size ≤ b ∧ b ≠ g) := fun b hb => by
    rcases HSub2.out b hb with e | e
    · omega
    · omega
  have hng2 : ¬ R2 g := fun e => (hR2 g e).2 rfl
  have hb2 := HBa.out.fr HFr2.out (fun e => by
    have e := (show Mut _ wa g from e).1
    omega)
  have hb3 := hb2.fr HFr3.out (fun e => hng2 e.1)
  have hf3 : Fr Nob w3 w4 := by rw [hw4]; exact ((Fr.refl _ w3).alloc _).alloc _
  have hb4 := hb3.fr hf3 (fun h => h)
  have HB4 := Lib.hid hb4
  have hfile4 : FileAt w4 f d 0 8 0 := (HFile2.out.fr HFr3.out (fun e => HNf2.out e.1)).fr hf3 (fun h => h)
  have HFile4 := Lib.hid hfile4
  have HW4 := Lib.hid hw4
  have HF34 := Lib.hid hf3
  have b1 := hb4.cell 1
  have b2 := hb4.cell 2
  have b3 := hb4.cell 3
  have q1 := hb4.frozen 1
  have q2 := hb4.frozen 2
  have q3 := hb4.frozen 3
  have sz := hb4.lt
  unfold w5cells at b1 b2 b3
  simp only [List.getElem?_toArray, List.getElem?_cons_zero, List.getElem?_cons_succ] at b1 b2 b3
  clear hb2 hb3 hb4 hf3 hfile4 HPn hw4
  go_wp2
  go_ret
  have hbE := ((HB4.out.set_ 1 (.pointer (some ⟨f, 0, none⟩))).set_ 2 (.pointer (some ⟨l, 0, none⟩))).set_ 3 (.pointer (some ⟨w3.heap.size + 1, 0, none⟩))
  have hfE : Fr (fun b => b = g) w4 (((w4.setCell ⟨g, 1, none⟩ (.pointer (some ⟨f, 0, none⟩))).setCell ⟨g, 2, none⟩ (.pointer (some ⟨l, 0, none⟩))).setCell ⟨g, 3, none⟩ (.pointer (some ⟨w3.heap.size + 1, 0, none⟩))) :=
    (((Fr.refl (fun b => b = g) w4).setCell (p := ⟨g, 1, none⟩) (.inr rfl) _).setCell (p := ⟨g, 2, none⟩) (.inr rfl) _).setCell (p := ⟨g, 3, none⟩) (.inr rfl) _
  have hz4 : w3.heap.size + 2 = w4.heap.size := by rw [HW4.out]; simp
  have hpb : Blk w4 (w3.heap.size + 1) 69 #[.pointer (some ⟨f, 0, none⟩), .pointer (some ⟨l, 0, none⟩), .int .i64 frames, .map (some w3.heap.size), .slice none 0 0, .int .i64 0] := by
    rw [HW4.out]
    have := Blk.new (w3.alloc (.map #[] 0)) 69 #[.pointer (some ⟨f, 0, none⟩), .pointer (some ⟨l, 0, none⟩), .int .i64 frames, .map (some w3.heap.size), .slice none 0 0, .int .i64 0]
    simpa using this
  have hmap : FrMap w4 Tryz.prog 3 w3.heap.size 0 (fun _ => none) := by
    rw [HW4.out]
    exact (FrMap.empty w3 Tryz.prog 3).fr ((Fr.refl Nob _).alloc _) (fun h => h)
  have hRLw : ∀ b, RL b → w2.heap.size ≤ b ∧ b < w3.heap.size := fun b hb => ⟨HRL.out b hb, HWi.out.l.lt hb⟩
  have hRDw : ∀ b, RD b → (R2 b ∨ w2.heap.size ≤ b) ∧ b < w3.heap.size := fun b hb => ⟨HRD.out b hb, HWi.out.d.lt hb⟩
  have hf2z : f < w2.heap.size := hf1
  have hwal4 : WalIn w4 l d (LS.empty (8 * 8 + 80) 80) (DS.new 224) RL RD := ⟨HWi.out.l.new HF34.out, HWi.out.d.new HF34.out, HWi.out.apart, HWi.out.fits⟩
  have hok := PoolOk.fresh (pages := 8) (n := 224) (logn := 80) (frames := frames) HFile4.out hwal4 hpb hmap (by omega) (by omega) (by omega) (by omega) (by omega) h1 h2 ⟨fun e => by have := hRLw f e; omega, fun e => by
    rcases (hRDw f e).1 with e | e
    · exact HNf2.out e
    · omega⟩ ⟨fun e => by have := hRLw _ e; omega, fun e => by have := (hRDw _ e).2; omega⟩ ⟨fun e => by have := hRLw _ e; omega, fun e => by have := (hRDw _ e).2; omega⟩
  have hU : ∀ b, Uni (fun b => b = w3.heap.size + 1 ∨ b = w3.heap.size) (fun _ => False) RL RD f b → w.heap.size ≤ b ∧ b ≠ g := fun b hb => by
    rcases hb with (hb | hb) | hb | hb | hb | hb
    · omega
    · omega
    · exact hb.elim
    · have := hRLw b hb; omega
    · rcases (hRDw b hb).1 with e | e
      · exact hR2 b e
      · omega
    · omega
  refine ⟨g, d, f, l, w3.heap.size + 1, _, rfl, hbE, hok.fr hfE (fun b hb e => (hU b hb).2 e), fun b hb => (hU b hb).1, by omega, fun e => (hU g e).2 rfl, ?_⟩
  refine ((((HFa.out.step HFr2.out (fun i hi e => ?_)).step HFr3.out (fun i hi e => ?_)).trans HF34.out).step hfE (fun i hi e => ?_))
  · have := (show Mut _ wa i from e).1; omega
  · have := hR2 i (show Mut R2 w2 i from e).1; omega
  · have e : i = g := e
    omega
end Go.Proofs.YtccmmnacejdeoaaGreatDoor

/-
  A made world, call by call (PW).
-/
namespace Go.Proofs.YtccmmnacejdeoaaGreatDoor
set_option linter.unusedSimpArgs false
set_option linter.unusedVariables false
open Go.RowKit Go.Maps

section
variable {U F : Nat → Prop} {w w' : World} {g d f l p : Nat}
theorem World5.cf (h : World5 w g d f l p) : w.cell? ⟨g, 1, none⟩ = some (.pointer (some ⟨f, 0, none⟩)) := by
  have := Blk.cell h 1
  simpa [w5cells] using this
theorem World5.cl (h : World5 w g d f l p) : w.cell? ⟨g, 2, none⟩ = some (.pointer (some ⟨l, 0, none⟩)) := by
  have := Blk.cell h 2
  simpa [w5cells] using this
theorem World5.cp (h : World5 w g d f l p) : w.cell? ⟨g, 3, none⟩ = some (.pointer (some ⟨p, 0, none⟩)) := by
  have := Blk.cell h 3
  simpa [w5cells] using this
/-- A world that was made since w0, as its pool has it now. -/
structure PW (w0 w : World) (U : Nat → Prop) (g d f l p : Nat) (frames : Int) (V : Nat → PgV) (L : LS) (M N : Nat) (Dt : Nat → Prop) : Prop where
  wld : World5 w g d f l p
  ok : PoolOk U w p f l d 8 frames V L M N Dt
  hi : ∀ b, U b → w0.heap.size ≤ b
  ng : ¬ U g
  gg : w0.heap.size ≤ g
  fr : Fr Nob w0 w
  lo : ∀ b, U b → b < w.heap.size
variable {w0 : World} {frames : Int} {V : Nat → PgV} {L : LS} {M N : Nat} {Dt : Nat → Prop}
theorem PW.lt (h : PW w0 w U g d f l p frames V L M N Dt) : g < w.heap.size := Blk.lt h.wld
theorem PW.new (h : PW w0 w U g d f l p frames V L M N Dt) (hf : Fr Nob w w') : PW w0 w' U g d f l p frames V L M N Dt :=
  ⟨Blk.fr h.wld hf (fun h => h), h.ok.new hf, h.hi, h.ng, h.gg, h.fr.trans hf, fun b hb => Nat.lt_of_lt_of_le (h.lo b hb) hf.size⟩
theorem PW.step (h : PW w0 w U g d f l p frames V L M N Dt) {U' : Nat → Prop} {V' : Nat → PgV} {L' : LS} {M' N' : Nat} {Dt' : Nat → Prop} (hok : PoolOk U' w' p f l d 8 frames V' L' M' N' Dt') (hs : ∀ b, U' b → U b ∨ w.heap.size ≤ b) (hf : Fr U w w') : PW w0 w' (fun b => U' b ∧ b < w'.heap.size) g d f l p frames V' L' M' N' Dt' := by
  have hz := h.fr.size
  refine ⟨Blk.fr h.wld hf h.ng, hok.trim, fun b hb => ?_, fun e => ?_, h.gg, h.fr.step hf (fun i hi e => ?_), fun b hb => hb.2⟩
  · rcases hs b hb.1 with e | e
    · exact h.hi b e
    · omega
  · rcases hs g e.1 with e | e
    · exact h.ng e
    · have := h.lt; omega
  · have := h.hi i e; omega
theorem PW.dmono (h : PW w0 w U g d f l p frames V L M N Dt) {Dt' : Nat → Prop} (hd : ∀ k, Dt k → Dt' k) : PW w0 w U g d f l p frames V L M N Dt' :=
  ⟨h.wld, h.ok.dmono hd, h.hi, h.ng, h.gg, h.fr, h.lo⟩
theorem made5_pw (frames : Int) (w : World) (h1 : 1 ≤ frames) (h2 : frames ≤ 64) :
    Calls Tryz.prog 6 #[.int .i64 frames] w fun e w' => ∃ g d f l p U, e = .returned (.pointer (some ⟨g, 0, none⟩)) ∧ PW w w' U g d f l p frames V0 (LS.empty 144 80) 0 0 (fun _ => False) := by
  refine (made5_any frames w h1 h2).mono ?_
  rintro e w' ⟨g, d, f, l, p, U, rfl, h1, h2, h3, h4, h5, h6⟩
  exact ⟨g, d, f, l, p, _, rfl, h1, h2.trim, fun b hb => h3 b hb.1, fun e => h5 e.1, h4, h6, fun b hb => hb.2⟩
end
end Go.Proofs.YtccmmnacejdeoaaGreatDoor

/-
  A pool's calls, whatever is asked.
-/
namespace Go.Proofs.YtccmmnacejdeoaaGreatDoor
set_option linter.unusedSimpArgs false
set_option linter.unusedVariables false
open Go.RowKit Go.Maps

theorem PNew_some (a b : Addr) (n : Int) (w : World) :
    Calls Tryz.prog 7 #[.pointer (some a), .pointer (some b), .int .i64 n] w fun e w' => ∃ q c, e = .returned (.tuple #[.pointer q, .int .i64 c]) ∧ (((1 ≤ n ∧ n ≤ 64) ∧ c = 0 ∧ ∃ k, q = some k) ∨ (¬ (1 ≤ n ∧ n ≤ 64) ∧ c = 1 ∧ q = none)) ∧ Fr Nob w w' := by
  by_cases h : 1 ≤ n ∧ n ≤ 64
  · refine (PNew_good a b n w h.1 h.2).mono ?_
    rintro e w' ⟨rfl, rfl⟩
    exact ⟨_, _, rfl, .inl ⟨h, rfl, _, rfl⟩, ((Fr.refl _ w).alloc _).alloc _⟩
  · refine (PNew_bad (some a) (some b) n w (by right; right; omega)).mono ?_
    rintro e w' ⟨rfl, rfl⟩
    exact ⟨_, _, rfl, .inr ⟨h, rfl, rfl⟩, Fr.refl _ _⟩
section
variable {U : Nat → Prop} {w0 w w' : World} {g d f l p : Nat} {frames : Int} {V : Nat → PgV} {L : LS} {M N : Nat} {Dt : Nat → Prop}
theorem PW.more (h : PW w0 w U g d f l p frames V L M N Dt) {K : Nat} (hK : M ≤ K) (h1 : K ≤ 1000000000000000000) : PW w0 w U g d f l p frames V L K N Dt :=
  ⟨h.wld, h.ok.more hK h1, h.hi, h.ng, h.gg, h.fr, h.lo⟩
theorem PW.put_any (h : PW w0 w U g d f l p frames V L M N Dt) (no lsn : Int) (A : Option Addr) (n c : Nat) (h0 : 0 ≤ lsn) (hz : n = 480 → ∃ kb ko, A = some ⟨kb, ko, none⟩ ∧ Bsl w A c (zeros 480) ∧ ¬ U kb) (hnx : L.next = 1) (hM : M + 1 ≤ 1000000000000000000) :
    Calls Tryz.prog 8 #[.pointer (some ⟨p, 0, none⟩), .agg #[.int .i64 no, .int .u64 lsn, .slice A n c]] w fun e w' => ∃ c', e = .returned (.int .i64 c') ∧ ((((0 ≤ no ∧ no < 8) ∧ n = 480 ∧ lsn < 1) ∧ c' = 0) ∨ (¬ ((0 ≤ no ∧ no < 8) ∧ n = 480 ∧ lsn < 1) ∧ c' = 1)) ∧ ∃ U' V', PW w0 w' U' g d f l p frames V' L (M + 1) N (fun _ => True) := by
  by_cases hg : (0 ≤ no ∧ no < 8) ∧ n = 480 ∧ lsn < 1
  · obtain ⟨⟨q0, q1⟩, rfl, q2⟩ := hg
    obtain ⟨kb, ko, rfl, hb, hu⟩ := hz rfl
    obtain ⟨m, rfl⟩ : ∃ m : Nat, no = m := ⟨no.toNat, by omega⟩
    obtain rfl : lsn = ((0 : Nat) : Int) := by omega
    refine (h.ok.put ⟨m, 0, zeros 480⟩ kb ko c hb ⟨by show m < 100000; omega, by show 0 < _; omega, zeros_length 480⟩ (by show m < 8; omega) (by show 0 < L.next; omega) hu hM).mono ?_
    rintro e w' ⟨rfl, U', hok, hs, hf⟩
    exact ⟨0, rfl, .inl ⟨⟨⟨q0, q1⟩, rfl, by omega⟩, rfl⟩, _, _, (h.step hok hs hf).dmono (fun _ _ => trivial)⟩
  · refine (h.ok.putBad no lsn A n c (by rw [hnx]; have : ((1 : Nat) : Int) = 1 := rfl; have : ((8 : Nat) : Int) = 8 := rfl; omega)).mono ?_
    rintro e w' ⟨rfl, hf⟩
    exact ⟨1, rfl, .inr ⟨hg, rfl⟩, U, V, ((h.new hf).more (by omega) hM).dmono (fun _ _ => trivial)⟩
theorem PW.get_any (h : PW w0 w U g d f l p frames V L M N Dt) (no : Int) (h0 : -9223372036854775808 ≤ no) (h1 : no ≤ 9223372036854775807) (hM : M + 1 ≤ 1000000000000000000) :
    Calls Tryz.prog 9 #[.pointer (some ⟨p, 0, none⟩), .int .i64 no] w fun e w' => ∃ a1 a2 A3 n3 c3 c', e = .returned (.tuple #[.agg #[.int .i64 a1, .int .u64 a2, .slice A3 n3 c3], .int .i64 c']) ∧ (((0 ≤ no ∧ no < 8) ∧ c' = 0) ∨ (¬ (0 ≤ no ∧ no < 8) ∧ c' = 1)) ∧ ∃ U' V', PW w0 w' U' g d f l p frames V' L (M + 1) N Dt := by
  by_cases hg : 0 ≤ no ∧ no < 8
  · obtain ⟨q0, q1⟩ := hg
    obtain ⟨m, rfl⟩ : ∃ m : Nat, no = m := ⟨no.toNat, by omega⟩
    refine (h.ok.get m (by omega) hM).mono ?_
    rintro e w' ⟨k, rfl, hc, hk, U', hok, hu, hs, hf⟩
    exact ⟨_, _, _, _, _, 0, rfl, .inl ⟨⟨q0, q1⟩, rfl⟩, _, _, h.step hok hs hf⟩
  · refine (h.ok.getBad no (by have : ((8 : Nat) : Int) = 8 := rfl; omega) h0 h1).mono ?_
    rintro e w' ⟨rfl, hf⟩
    exact ⟨_, _, _, _, _, 1, rfl, .inr ⟨hg, rfl⟩, U, V, (h.new hf).more (by omega) hM⟩
theorem PW.evict_any (h : PW w0 w U g d f l p frames V L M N Dt) (no : Int) (hM : M + 1 ≤ 1000000000000000000) :
    Calls Tryz.prog 10 #[.pointer (some ⟨p, 0, none⟩), .int .i64 no] w fun e w' => ∃ c', e = .returned (.int .i64 c') ∧ (((0 ≤ no ∧ no < 8) ∧ c' = 0) ∨ (¬ (0 ≤ no ∧ no < 8) ∧ c' = 1)) ∧ ∃ U' V', PW w0 w' U' g d f l p frames V' L (M + 1) N Dt := by
  by_cases hg : 0 ≤ no ∧ no < 8
  · obtain ⟨q0, q1⟩ := hg
    obtain ⟨m, rfl⟩ : ∃ m : Nat, no = m := ⟨no.toNat, by omega⟩
    refine (h.ok.evict m (by omega) hM).mono ?_
    rintro e w' ⟨rfl, U', hok, hs, hf⟩
    exact ⟨0, rfl, .inl ⟨⟨q0, q1⟩, rfl⟩, _, _, (h.step hok hs hf).dmono (fun _ hk => hk.1)⟩
  · refine (h.ok.evictBad no (by have : ((8 : Nat) : Int) = 8 := rfl; omega)).mono ?_
    rintro e w' ⟨rfl, rfl⟩
    exact ⟨1, rfl, .inr ⟨hg, rfl⟩, U, V, h.more (by omega) hM⟩
end
end Go.Proofs.YtccmmnacejdeoaaGreatDoor

/-
  Flush and what is in the file behind it, as a pool's callers see it.
-/
namespace Go.Proofs.YtccmmnacejdeoaaGreatDoor
set_option linter.unusedSimpArgs false
set_option linter.unusedVariables false
open Go.RowKit Go.Maps

section
variable {U : Nat → Prop} {w0 w w' : World} {g p f l d pages : Nat} {frames : Int} {V : Nat → PgV} {L : LS} {M N : Nat} {Dt : Nat → Prop}
theorem PoolOk.flush (h : PoolOk U w p f l d pages frames V L M N Dt) (hM : M + 8 ≤ 1000000000000000000) :
    Calls Tryz.prog 14 #[.pointer (some ⟨p, 0, none⟩)] w fun e w' => e = .returned (.int .i64 0) ∧ ∃ U', PoolOk U' w' p f l d pages frames V L (M + 8) N (fun _ => False) ∧ (∀ b, U' b → U b ∨ w.heap.size ≤ b) ∧ Fr U w w' := by
  obtain ⟨RP, RQ, RL, RD, hand, B, rv, fs, cur, S, T, lot, L', h1, h2, h3, h4⟩ := h
  refine (Flush_pin h1 hM).mono ?_
  rintro e w' ⟨rfl, L2, S2, T2, lot2, RD2, fs2, cur2, hin, hs, hcl, hsub, hf⟩
  refine ⟨rfl, Uni RP RQ RL RD2 f, ⟨RP, RQ, RL, RD2, hand, B, rv, fs2, cur2, S2, T2, lot2, L2, hin, h2.trans hs, fun b hb => hb, fun y hy hd => by rw [hcl y hy] at hd; cases hd⟩, fun b hb => ?_, hf.mono (fun b _ hb => h3 b hb)⟩
  rcases hb with hb | hb | hb | hb | hb
  · exact .inl (h3 b (.inl hb))
  · exact .inl (h3 b (.inr (.inl hb)))
  · exact .inl (h3 b (.inr (.inr (.inl hb))))
  · rcases hsub b hb with e | e
    · exact .inl (h3 b (.inr (.inr (.inr (.inl e)))))
    · exact .inr e
  · exact .inl (h3 b (.inr (.inr (.inr (.inr hb)))))
theorem PoolOk.read (h : PoolOk U w p f l d pages frames V L M N (fun _ => False)) (no : Nat) (hno : no < pages) :
    Calls Tryz.prog 15 #[.pointer (some ⟨f, 0, none⟩), .int .i64 no] w fun e w' => ∃ g o, e = .returned (.tuple #[.agg #[.int .i64 no, .int .u64 (V no).lsn, .slice (some ⟨g, o, none⟩) 480 480], .int .i64 0]) ∧ BytesIn w' (some ⟨g, o, none⟩) (V no).d ∧ w.heap.size ≤ g ∧ Fr Nob w w' := by
  obtain ⟨RP, RQ, RL, RD, hand, B, rv, fs, cur, S, T, lot, L', h1, h2, h3, h4⟩ := h
  have hfile : pgOf (cur no) no = V no := h1.views.file no hno (fun y hy e => by
    cases hd : y.2.dirty
    · rfl
    · exact (h4 y hy hd).elim)
  have := h1.und.read no hno
  rw [hfile] at this
  refine this.mono ?_
  rintro e w' ⟨g, o, rfl, hb, h5, h6, h7, h8⟩
  exact ⟨g, o, rfl, hb.h, h7, h8⟩
theorem PW.flush (h : PW w0 w U g d f l p frames V L M N Dt) (hM : M + 8 ≤ 1000000000000000000) :
    Calls Tryz.prog 14 #[.pointer (some ⟨p, 0, none⟩)] w fun e w' => e = .returned (.int .i64 0) ∧ (∃ U', PW w0 w' U' g d f l p frames V L (M + 8) N (fun _ => False) ∧ ∀ b, U' b → U b ∨ w.heap.size ≤ b) ∧ Fr U w w' := by
  refine (h.ok.flush hM).mono ?_
  rintro e w' ⟨rfl, U', hok, hs, hf⟩
  exact ⟨rfl, ⟨_, h.step hok hs hf, fun b hb => hs b hb.1⟩, hf⟩
end
end Go.Proofs.YtccmmnacejdeoaaGreatDoor

/-
  Two made worlds side by side (Pair), call by call.
-/
namespace Go.Proofs.YtccmmnacejdeoaaGreatDoor
set_option linter.unusedSimpArgs false
set_option linter.unusedVariables false
open Go.RowKit Go.Maps

/-- The blocks of a made world that are named. -/
structure Hd where
  g : Nat
  d : Nat
  f : Nat
  l : Nat
  p : Nat
section
variable {U F K : Nat → Prop} {w0 w w' : World} {a b h : Hd} {fa fb fr : Int} {V V1 V2 : Nat → PgV} {L L1 L2 : LS} {M N M1 M2 N1 N2 : Nat}
abbrev PH (w0 w : World) (U : Nat → Prop) (h : Hd) (fr : Int) (V : Nat → PgV) (L : LS) (M N : Nat) (Dt : Nat → Prop) : Prop := PW w0 w U h.g h.d h.f h.l h.p fr V L M N Dt
theorem PW.away {g d f l p : Nat} {Dt : Nat → Prop} (h : PW w0 w U g d f l p fr V L M N Dt) (hf : Fr F w w') (hF : ∀ b, U b → ¬ F b) (hg : ¬ F g) (h0 : ∀ b, F b → w0.heap.size ≤ b) : PW w0 w' U g d f l p fr V L M N Dt :=
  ⟨Blk.fr h.wld hf hg, h.ok.fr hf hF, h.hi, h.ng, h.gg, h.fr.step hf (fun i hi e => by have := h0 i e; omega), fun b hb => Nat.lt_of_lt_of_le (h.lo b hb) hf.size⟩
/-- What a call on one world leaves of it. -/
def Nx (w0 w w' : World) (U : Nat → Prop) (h : Hd) (fr : Int) (V : Nat → PgV) (L : LS) (M N : Nat) (Dt : Nat → Prop) : Prop :=
  ∃ U', PH w0 w' U' h fr V L M N Dt ∧ (∀ b, U' b → U b ∨ w.heap.size ≤ b) ∧ Fr U w w'
theorem Nx.trans {w1 w2 : World} {Dt Dt' : Nat → Prop} (h1 : Nx w0 w w1 U h fr V1 L1 M1 N1 Dt) (h2 : ∀ U', PH w0 w1 U' h fr V1 L1 M1 N1 Dt → (∀ b, U' b → U b ∨ w.heap.size ≤ b) → Nx w0 w1 w2 U' h fr V2 L2 M2 N2 Dt') : Nx w0 w w2 U h fr V2 L2 M2 N2 Dt' := by
  obtain ⟨U1, q1, q2, q3⟩ := h1
  obtain ⟨U2, r1, r2, r3⟩ := h2 U1 q1 q2
  have hz := q3.size
  refine ⟨U2, r1, fun b hb => ?_, q3.step r3 (fun i hi e => ?_)⟩
  · rcases r2 b hb with e | e
    · exact q2 b e
    · exact .inr (by omega)
  · rcases q2 i e with e | e
    · exact e
    · omega
theorem Nx.new {Dt : Nat → Prop} (h1 : PH w0 w U h fr V L M N Dt) (hf : Fr Nob w w') : Nx w0 w w' U h fr V L M N Dt := ⟨U, PW.new h1 hf, fun _ hb => .inl hb, hf.mono (fun _ _ h => h.elim)⟩
theorem Nx.more {Dt : Nat → Prop} {M' : Nat} (h1 : Nx w0 w w' U h fr V L M N Dt) (hM : M ≤ M') (hM' : M' ≤ 1000000000000000000) : Nx w0 w w' U h fr V L M' N Dt := by
  obtain ⟨U1, q1, q2, q3⟩ := h1
  exact ⟨U1, PW.more q1 hM hM', q2, q3⟩
theorem PH.app {Dt : Nat → Prop} (h1 : PH w0 w U h fr V L M N Dt) (x : Addr) (c : Nat) (t : List UInt8) (hb : BytesIn w (some x) t) (ha : x.block < w.heap.size) (hlen : t.length ≤ 2000) (hr : t.length + 16 ≤ L.room) (hN : N + 1 ≤ 400000) :
    Calls Tryz.prog 12 #[.pointer (some ⟨h.l, 0, none⟩), .slice (some x) t.length c] w fun e w' => e = .returned (.tuple #[.int .u64 L.next, .int .i64 0]) ∧ Nx w0 w w' U h fr V (L.add t) M (N + 1) Dt := by
  refine (h1.ok.append x c t hb ha hlen hr hN).mono ?_
  rintro e w' ⟨rfl, U', hok, hs, hf⟩
  exact ⟨rfl, _, PW.step h1 hok hs hf, fun b hb => hs b hb.1, hf⟩
theorem PH.put (h1 : PH w0 w U h fr V L M N (fun _ => True)) (x : PgV) (kb ko c : Nat) (hb : Bsl w (some ⟨kb, ko, none⟩) c x.d) (hok : x.Ok) (hno : x.no < 8) (hls : x.lsn < L.next) (hkb : ¬ U kb) (hM : M + 1 ≤ 1000000000000000000) :
    Calls Tryz.prog 8 #[.pointer (some ⟨h.p, 0, none⟩), .agg #[.int .i64 x.no, .int .u64 x.lsn, .slice (some ⟨kb, ko, none⟩) 480 c]] w fun e w' => e = .returned (.int .i64 0) ∧ Nx w0 w w' U h fr (fun no => if no = x.no then x else V no) L (M + 1) N (fun _ => True) := by
  refine (h1.ok.put x kb ko c hb hok hno hls hkb hM).mono ?_
  rintro e w' ⟨rfl, U', hok, hs, hf⟩
  exact ⟨rfl, _, (PW.step h1 hok hs hf).dmono (fun _ _ => trivial), fun b hb => hs b hb.1, hf⟩
theorem PH.evict (h1 : PH w0 w U h fr V L M N (fun _ => True)) (no : Nat) (hno : no < 8) (hM : M + 1 ≤ 1000000000000000000) :
    Calls Tryz.prog 10 #[.pointer (some ⟨h.p, 0, none⟩), .int .i64 no] w fun e w' => e = .returned (.int .i64 0) ∧ Nx w0 w w' U h fr V L (M + 1) N (fun _ => True) := by
  refine (h1.ok.evict no hno hM).mono ?_
  rintro e w' ⟨rfl, U', hok, hs, hf⟩
  exact ⟨rfl, _, (PW.step h1 hok hs hf).dmono (fun _ _ => trivial), fun b hb => hs b hb.1, hf⟩
theorem PH.get {Dt : Nat → Prop} (h1 : PH w0 w U h fr V L M N Dt) (no : Nat) (hno : no < 8) (hM : M + 1 ≤ 1000000000000000000) :
    Calls Tryz.prog 9 #[.pointer (some ⟨h.p, 0, none⟩), .int .i64 no] w fun e w' => ∃ q, e = .returned (.tuple #[.agg #[.int .i64 no, .int .u64 (V no).lsn, .slice (some ⟨q, 0, none⟩) 480 480], .int .i64 0]) ∧ CopyIn w' q (V no).d ∧ w.heap.size ≤ q ∧ q < w'.heap.size ∧ ∃ U', PH w0 w' U' h fr V L (M + 1) N Dt ∧ ¬ U' q ∧ (∀ b, U' b → U b ∨ w.heap.size ≤ b) ∧ Fr U w w' := by
  refine (h1.ok.get no hno hM).mono ?_
  rintro e w' ⟨q, rfl, hc, hq, U', hok, hu, hs, hf⟩
  exact ⟨q, rfl, hc, hq, hc.lt, _, PW.step h1 hok hs hf, fun e => hu e.1, fun b hb => hs b hb.1, hf⟩
theorem PH.flush {Dt : Nat → Prop} (h1 : PH w0 w U h fr V L M N Dt) (hM : M + 8 ≤ 1000000000000000000) :
    Calls Tryz.prog 14 #[.pointer (some ⟨h.p, 0, none⟩)] w fun e w' => e = .returned (.int .i64 0) ∧ Nx w0 w w' U h fr V L (M + 8) N (fun _ => False) := by
  refine (PW.flush h1 hM).mono ?_
  rintro e w' ⟨rfl, ⟨U', hok, hs⟩, hf⟩
  exact ⟨rfl, U', hok, hs, hf⟩
/-- Two worlds; the blocks K are none of theirs. -/
def Pair (w0 w : World) (K : Nat → Prop) (a b : Hd) (fa fb : Int) (V1 V2 : Nat → PgV) (L1 L2 : LS) (M1 M2 N1 N2 : Nat) (D1 D2 : Nat → Prop) : Prop :=
  ∃ U1 U2, PH w0 w U1 a fa V1 L1 M1 N1 D1 ∧ PH w0 w U2 b fb V2 L2 M2 N2 D2 ∧ (∀ x, U1 x → ¬ U2 x) ∧ (∀ x, K x → x < w.heap.size ∧ ¬ U1 x ∧ ¬ U2 x) ∧ K a.g ∧ K b.g
variable {D1 D2 : Nat → Prop}
theorem Pair.fst (h : Pair w0 w K a b fa fb V1 V2 L1 L2 M1 M2 N1 N2 D1 D2) : ∃ U, PH w0 w U a fa V1 L1 M1 N1 D1 ∧ (∀ x, K x → x < w.heap.size ∧ ¬ U x) ∧ ∀ w' V' L' M' N' D', Nx w0 w w' U a fa V' L' M' N' D' → Pair w0 w' K a b fa fb V' V2 L' L2 M' M2 N' N2 D' D2 := by
  obtain ⟨U1, U2, h1, h2, hd, hk, ha, hb⟩ := h
  refine ⟨U1, h1, fun x hx => ⟨(hk x hx).1, (hk x hx).2.1⟩, ?_⟩
  rintro w' V' L' M' N' D' ⟨U', q1, q2, q3⟩
  have hz := q3.size
  refine ⟨U', U2, q1, PW.away h2 q3 (fun x hx e => hd x e hx) (hk _ hb).2.1 h1.hi, fun x hx e => ?_, fun x hx => ?_, ha, hb⟩
  · rcases q2 x hx with e2 | e2
    · exact hd x e2 e
    · have := h2.lo x e; omega
  · obtain ⟨k1, k2, k3⟩ := hk x hx
    refine ⟨by omega, fun e => ?_, k3⟩
    rcases q2 x e with e2 | e2
    · exact k2 e2
    · omega
theorem Pair.snd (h : Pair w0 w K a b fa fb V1 V2 L1 L2 M1 M2 N1 N2 D1 D2) : ∃ U, PH w0 w U b fb V2 L2 M2 N2 D2 ∧ (∀ x, K x → x < w.heap.size ∧ ¬ U x) ∧ ∀ w' V' L' M' N' D', Nx w0 w w' U b fb V' L' M' N' D' → Pair w0 w' K a b fa fb V1 V' L1 L' M1 M' N1 N' D1 D' := by
  obtain ⟨U1, U2, h1, h2, hd, hk, ha, hb⟩ := h
  refine ⟨U2, h2, fun x hx => ⟨(hk x hx).1, (hk x hx).2.2⟩, ?_⟩
  rintro w' V' L' M' N' D' ⟨U', q1, q2, q3⟩
  have hz := q3.size
  refine ⟨U1, U', PW.away h1 q3 (fun x hx e => hd x hx e) (hk _ ha).2.2 h2.hi, q1, fun x hx e => ?_, fun x hx => ?_, ha, hb⟩
  · rcases q2 x e with e2 | e2
    · exact hd x hx e2
    · have := h1.lo x hx; omega
  · obtain ⟨k1, k2, k3⟩ := hk x hx
    refine ⟨by omega, k2, fun e => ?_⟩
    rcases q2 x e with e2 | e2
    · exact k3 e2
    · omega
theorem Pair.new (h : Pair w0 w K a b fa fb V1 V2 L1 L2 M1 M2 N1 N2 D1 D2) (hf : Fr Nob w w') : Pair w0 w' K a b fa fb V1 V2 L1 L2 M1 M2 N1 N2 D1 D2 := by
  obtain ⟨U1, U2, h1, h2, hd, hk, ha, hb⟩ := h
  exact ⟨U1, U2, PW.new h1 hf, PW.new h2 hf, hd, fun x hx => ⟨Nat.lt_of_lt_of_le (hk x hx).1 hf.size, (hk x hx).2⟩, ha, hb⟩
/-- What is made now is none of theirs. -/
theorem Pair.keep (h : Pair w0 w K a b fa fb V1 V2 L1 L2 M1 M2 N1 N2 D1 D2) (hf : Fr Nob w w') (K' : Nat → Prop) (hK : ∀ x, K' x → K x ∨ (w.heap.size ≤ x ∧ x < w'.heap.size)) (ha : K' a.g) (hb : K' b.g) : Pair w0 w' K' a b fa fb V1 V2 L1 L2 M1 M2 N1 N2 D1 D2 := by
  obtain ⟨U1, U2, h1, h2, hd, hk, _, _⟩ := h
  have hz := hf.size
  refine ⟨U1, U2, PW.new h1 hf, PW.new h2 hf, hd, fun x hx => ?_, ha, hb⟩
  rcases hK x hx with e | ⟨e1, e2⟩
  · exact ⟨by have := (hk x e).1; omega, (hk x e).2⟩
  · exact ⟨e2, fun e => by have := h1.lo x e; omega, fun e => by have := h2.lo x e; omega⟩
theorem Pair.less (h : Pair w0 w K a b fa fb V1 V2 L1 L2 M1 M2 N1 N2 D1 D2) (K' : Nat → Prop) (hK : ∀ x, K' x → K x) (ha : K' a.g) (hb : K' b.g) : Pair w0 w K' a b fa fb V1 V2 L1 L2 M1 M2 N1 N2 D1 D2 :=
  h.keep (Fr.refl _ _) K' (fun x hx => .inl (hK x hx)) ha hb
theorem Pair.fr0 (h : Pair w0 w K a b fa fb V1 V2 L1 L2 M1 M2 N1 N2 D1 D2) : Fr Nob w0 w := by
  obtain ⟨U1, U2, h1, _⟩ := h
  exact h1.fr
theorem Pair.wa (h : Pair w0 w K a b fa fb V1 V2 L1 L2 M1 M2 N1 N2 D1 D2) : World5 w a.g a.d a.f a.l a.p := by
  obtain ⟨U1, U2, h1, _⟩ := h
  exact h1.wld
theorem Pair.wb (h : Pair w0 w K a b fa fb V1 V2 L1 L2 M1 M2 N1 N2 D1 D2) : World5 w b.g b.d b.f b.l b.p := by
  obtain ⟨U1, U2, _, h2, _⟩ := h
  exact h2.wld
/-- The second is made beside the first. -/
theorem Pair.mk_ {U1 U2 : Nat → Prop} {w1 w2 : World} (h1 : PH w0 w1 U1 a fa V1 L1 M1 N1 D1) (h2 : PH w1 w2 U2 b fb V2 L2 M2 N2 D2) : Pair w0 w2 (fun x => x = a.g ∨ x = b.g) a b fa fb V1 V2 L1 L2 M1 M2 N1 N2 D1 D2 := by
  have hz := h1.fr.size
  have hz2 := h2.fr.size
  refine ⟨U1, U2, PW.new h1 h2.fr, ⟨h2.wld, h2.ok, fun x hx => by have := h2.hi x hx; omega, h2.ng, by have := h2.gg; omega, h1.fr.trans h2.fr, h2.lo⟩, fun x hx e => by have := h1.lo x hx; have := h2.hi x e; omega, fun x hx => ?_, .inl rfl, .inr rfl⟩
  rcases hx with rfl | rfl
  · exact ⟨by have := h1.lt; omega, h1.ng, fun e => by have := h2.hi _ e; have := h1.lt; omega⟩
  · exact ⟨h2.lt, fun e => by have := h1.lo _ e; have := h2.gg; omega, h2.ng⟩
/-- .. and what the call made for its caller is kept. -/
theorem Pair.fstK (h : Pair w0 w K a b fa fb V1 V2 L1 L2 M1 M2 N1 N2 D1 D2) : ∃ U, PH w0 w U a fa V1 L1 M1 N1 D1 ∧ (∀ x, K x → x < w.heap.size ∧ ¬ U x) ∧ ∀ w' U' V' L' M' N' D' (K' : Nat → Prop), PH w0 w' U' a fa V' L' M' N' D' → (∀ x, U' x → U x ∨ w.heap.size ≤ x) → Fr U w w' → (∀ x, K' x → K x ∨ (w.heap.size ≤ x ∧ x < w'.heap.size ∧ ¬ U' x)) → K' a.g → K' b.g → Pair w0 w' K' a b fa fb V' V2 L' L2 M' M2 N' N2 D' D2 := by
  obtain ⟨U1, U2, h1, h2, hd, hk, ha, hb⟩ := h
  refine ⟨U1, h1, fun x hx => ⟨(hk x hx).1, (hk x hx).2.1⟩, ?_⟩
  intro w' U' V' L' M' N' D' K' q1 q2 q3 hK ha' hb'
  have hz := q3.size
  refine ⟨U', U2, q1, PW.away h2 q3 (fun x hx e => hd x e hx) (hk _ hb).2.1 h1.hi, fun x hx e => ?_, fun x hx => ?_, ha', hb'⟩
  · rcases q2 x hx with e2 | e2
    · exact hd x e2 e
    · have := h2.lo x e; omega
  · rcases hK x hx with e | ⟨e1, e2, e3⟩
    · obtain ⟨k1, k2, k3⟩ := hk x e
      refine ⟨by omega, fun e => ?_, k3⟩
      rcases q2 x e with e2 | e2
      · exact k2 e2
      · omega
    · exact ⟨e2, e3, fun e => by have := h2.lo x e; omega⟩
theorem Pair.sndK (h : Pair w0 w K a b fa fb V1 V2 L1 L2 M1 M2 N1 N2 D1 D2) : ∃ U, PH w0 w U b fb V2 L2 M2 N2 D2 ∧ (∀ x, K x → x < w.heap.size ∧ ¬ U x) ∧ ∀ w' U' V' L' M' N' D' (K' : Nat → Prop), PH w0 w' U' b fb V' L' M' N' D' → (∀ x, U' x → U x ∨ w.heap.size ≤ x) → Fr U w w' → (∀ x, K' x → K x ∨ (w.heap.size ≤ x ∧ x < w'.heap.size ∧ ¬ U' x)) → K' a.g → K' b.g → Pair w0 w' K' a b fa fb V1 V' L1 L' M1 M' N1 N' D1 D' := by
  obtain ⟨U1, U2, h1, h2, hd, hk, ha, hb⟩ := h
  refine ⟨U2, h2, fun x hx => ⟨(hk x hx).1, (hk x hx).2.2⟩, ?_⟩
  intro w' U' V' L' M' N' D' K' q1 q2 q3 hK ha' hb'
  have hz := q3.size
  refine ⟨U1, U', PW.away h1 q3 (fun x hx e => hd x hx e) (hk _ ha).2.2 h2.hi, q1, fun x hx e => ?_, fun x hx => ?_, ha', hb'⟩
  · rcases q2 x e with e2 | e2
    · exact hd x hx e2
    · have := h1.lo x hx; omega
  · rcases hK x hx with e | ⟨e1, e2, e3⟩
    · obtain ⟨k1, k2, k3⟩ := hk x e
      refine ⟨by omega, k2, fun e => ?_⟩
      rcases q2 x e with e2 | e2
      · exact k3 e2
      · omega
    · exact ⟨e2, fun e => by have := h1.lo x e; omega, e3⟩
theorem Nx.pre {w1 : World} {Dt : Nat → Prop} (hf : Fr Nob w w1) (h1 : Nx w0 w1 w' U h fr V L M N Dt) : Nx w0 w w' U h fr V L M N Dt := by
  obtain ⟨U1, q1, q2, q3⟩ := h1
  have := hf.size
  exact ⟨U1, q1, fun b hb => (q2 b hb).imp id (fun e => by omega), (hf.mono (fun _ _ h => h.elim) : Fr U w w1).trans q3⟩
/-- Where the two stand while an operation is done on both: on none, on the first, on both. -/
def Stg (w0 w : World) (K : Nat → Prop) (a b : Hd) (fa fb : Int) (V V' : Nat → PgV) (L L' : LS) (M N N' : Nat) : Nat → Prop
  | 0 => Pair w0 w K a b fa fb V V L L M M N N (fun _ => True) (fun _ => True)
  | 1 => Pair w0 w K a b fa fb V' V L' L (M + 1) M N' N (fun _ => True) (fun _ => True)
  | _ => Pair w0 w K a b fa fb V' V' L' L' (M + 1) (M + 1) N' N' (fun _ => True) (fun _ => True)
theorem Stg.step {V' : Nat → PgV} {L' : LS} {N' j : Nat} (hs : Stg w0 w K a b fa fb V V' L L' M N N' j) (hj : j < 2) : ∃ hd fr U, PH w0 w U hd fr V L M N (fun _ => True) ∧ (∀ x, K x → x < w.heap.size ∧ ¬ U x) ∧ [a.g, b.g][j]? = some hd.g ∧ ∀ w', Nx w0 w w' U hd fr V' L' (M + 1) N' (fun _ => True) → Stg w0 w' K a b fa fb V V' L L' M N N' (j + 1) := by
  rcases (by omega : j = 0 ∨ j = 1) with rfl | rfl
  · obtain ⟨U, h1, h2, h3⟩ := Pair.fst hs
    exact ⟨a, fa, U, h1, h2, rfl, fun w' hn => h3 _ _ _ _ _ _ hn⟩
  · obtain ⟨U, h1, h2, h3⟩ := Pair.snd hs
    exact ⟨b, fb, U, h1, h2, rfl, fun w' hn => h3 _ _ _ _ _ _ hn⟩
end
end Go.Proofs.YtccmmnacejdeoaaGreatDoor
