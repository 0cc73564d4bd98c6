/-
  CrPool, CrMade, CrOpen, in one text.
-/
import Derived.Test.YtccmmnacejdeoaaGreatDoorMg34
import Derived.Test.YtccmmnacejdeoaaGreatDoorMg36
import Derived.Test.YtccmmnacejdeoaaGreatDoorMg29
import Derived.Test.YtccmmnacejdeoaaGreatDoorMg22
import Derived.Test.YtccmmnacejdeoaaGreatDoorMg12
/-
  A pool over a file and a log, on a disk that may die, as the law's world has it (PC); its calls.
-/
namespace Go.Proofs.YtccmmnacejdeoaaGreatDoor
set_option linter.unusedSimpArgs false
set_option linter.unusedVariables false
open Go.RowKit Go.Maps

/-- The pool behind so many records; what it is made of lies in U. -/
def PC (U : Nat → Prop) (w : World) (p f l d : Nat) (frames : Int) (i M : Nat) : Prop :=
  ∃ V RP RQ RL RD hand B rv fs cur S T lot L, PInC w p f l d 8 frames V L M i RP RQ RL RD hand B rv fs cur S T lot ∧ (∀ b, Uni RP RQ RL RD f b → U b) ∧ L.rs.length = i
section
variable {U F : Nat → Prop} {w w' : World} {p f l d : Nat} {frames : Int} {i M : Nat}
theorem PC.fr (h : PC U w p f l d frames i M) (hf : Fr F w w') (hF : ∀ b, U b → ¬ F b) : PC U w' p f l d frames i M := by
  obtain ⟨V, RP, RQ, RL, RD, hand, B, rv, fs, cur, S, T, lot, L, h1, h2, h3⟩ := h
  exact ⟨V, RP, RQ, RL, RD, hand, B, rv, fs, cur, S, T, lot, L, h1.fr hf (fun b hb => hF b (h2 b hb)), h2, h3⟩
theorem PC.new (h : PC U w p f l d frames i M) (hf : Fr Nob w w') : PC U w' p f l d frames i M := h.fr hf (fun _ _ h => h)
theorem PC.mono (h : PC U w p f l d frames i M) {U' : Nat → Prop} (hU : ∀ b, U b → b < w.heap.size → U' b) : PC U' w p f l d frames i M := by
  obtain ⟨V, RP, RQ, RL, RD, hand, B, rv, fs, cur, S, T, lot, L, h1, h2, h3⟩ := h
  exact ⟨V, RP, RQ, RL, RD, hand, B, rv, fs, cur, S, T, lot, L, h1, fun b hb => hU b (h2 b hb) (h1.lt hb), h3⟩
theorem PC.more (h : PC U w p f l d frames i M) {K : Nat} (hK : M ≤ K) (h1 : K ≤ 1000000000000000000) : PC U w p f l d frames i K := by
  obtain ⟨V, RP, RQ, RL, RD, hand, B, rv, fs, cur, S, T, lot, L, h2, h3⟩ := h
  exact ⟨V, RP, RQ, RL, RD, hand, B, rv, fs, cur, S, T, lot, L, { h2 with tm := Nat.le_trans h2.tm hK, M1 := h1 }, h3⟩
/-- The disk, at rest: what it holds is safe. -/
theorem PC.rest (h : PC U w p f l d frames i M) : ∃ S RD, DiskOk RD w d S ∧ Safe S ∧ ∀ b, RD b → U b := by
  obtain ⟨V, RP, RQ, RL, RD, hand, B, rv, fs, cur, S, T, lot, L, h1, h2, h3⟩ := h
  exact ⟨S, RD, h1.und.disk, h1.und.safe, fun b hb => h2 b (.inr (.inr (.inr (.inl hb))))⟩
/-- A fuse is set. -/
theorem PC.fuse (h : PC U w p f l d frames i M) (n : Int) (hn : -9223372036854775808 ≤ n) (hn2 : n ≤ 9223372036854775807) :
    Calls Tryz.prog 16 #[.pointer (some ⟨d, 0, none⟩), .int .i64 n] w fun e w' => e = .returned (.tuple #[]) ∧ PC U w' p f l d frames i M ∧ Fr U w w' := by
  obtain ⟨V, RP, RQ, RL, RD, hand, B, rv, fs, cur, S, T, lot, L, h1, h2, h3⟩ := h
  refine (Fuse_any n h1.und.disk hn hn2).mono ?_
  rintro e w' ⟨rfl, hd, hf⟩
  refine ⟨rfl, ⟨V, RP, RQ, RL, RD, hand, B, rv, fs, cur, S.set n, T, lot, L, ?_, h2, h3⟩, hf.mono (fun b _ hb => h2 b (.inr (.inr (.inr (.inl hb)))))⟩
  exact { h1 with
    pool := h1.pool.fr hf (fun b hb e => (h1.ap b (.inl hb)).2.1 e) (fun b hb e => (h1.ap b (.inr hb)).2.1 e)
    und := { h1.und with
      file := h1.und.file.fr hf h1.und.ap4
      log := h1.und.log.fr hf (fun b hb e => (h1.und.ap3 b hb).1 e)
      disk := hd
      q := ⟨h1.und.q.waits, h1.und.q.last⟩
      lh := h1.und.lh.agree (fun _ _ => rfl) rfl } }
/-- A record of one byte is put behind the others. -/
theorem PC.append (h : PC U w p f l d frames i M) (a : Addr) (c : Nat) (x : UInt8) (hb : BytesIn w (some a) [x]) (ha : a.block < w.heap.size) (hi : i < 100) :
    Calls Tryz.prog 12 #[.pointer (some ⟨l, 0, none⟩), .slice (some a) 1 c] w fun e w' => e = .returned (.tuple #[.int .u64 ((i + 1 : Nat) : Int), .int .i64 0]) ∧ ∃ U', PC U' w' p f l d frames (i + 1) M ∧ (∀ b, U' b → U b ∨ w.heap.size ≤ b) ∧ Fr U w w' := by
  obtain ⟨V, RP, RQ, RL, RD, hand, B, rv, fs, cur, S, T, lot, L, h1, h2, h3⟩ := h
  have hnx := h1.und.lh.nx
  have hap := h1.und.append a c [x] hb ha rfl (by omega) (by omega)
  rw [show L.next = i + 1 from by omega] at hap
  refine hap.mono ?_
  rintro e w' ⟨rfl, RL2, hu, hsub, hf⟩
  have hsz := hf.size
  have hfU : ∀ x, RL x → U x := fun x hx => h2 x (.inr (.inr (.inl hx)))
  refine ⟨rfl, Uni RP RQ RL2 RD f, ⟨V, RP, RQ, RL2, RD, hand, B, rv, fs, cur, S, T, lot, L.add [x], ?_, fun b hb => hb, ?_⟩, fun b hb => ?_, hf.mono (fun b _ hb => hfU b hb)⟩
  · exact { h1 with
      pool := h1.pool.fr hf (fun b hb e => (h1.ap b (.inl hb)).1 e) (fun b hb e => (h1.ap b (.inr hb)).1 e)
      und := hu
      ap := fun y hy => ⟨fun e => by
        rcases hsub y e with e | e
        · exact (h1.ap y hy).1 e
        · rcases hy with hy | hy
          · have := h1.pool.lt y hy; omega
          · have := h1.pool.ltq y hy; omega, (h1.ap y hy).2⟩
      kk := fun y hy => ⟨by have := (h1.kk y hy).1; show _ < L.next + 1; omega, (h1.kk y hy).2⟩ }
  · show (L.l ++ [([x], L.fin)] |>.map (·.1)).length = i + 1
    rw [List.length_map, List.length_append, ← LS.rs_length, h3]; rfl
  · rcases hb with hb | hb | hb | hb | hb
    · exact .inl (h2 b (.inl hb))
    · exact .inl (h2 b (.inr (.inl hb)))
    · exact (hsub b hb).imp (hfU b) id
    · exact .inl (h2 b (.inr (.inr (.inr (.inl hb)))))
    · exact .inl (h2 b (.inr (.inr (.inr (.inr hb)))))
theorem LostE.uni {RP RQ RL RD : Nat → Prop} (h : LostE w w' d RD (Uni RP RQ RL RD f)) (hU : ∀ b, Uni RP RQ RL RD f b → U b) : LostE w w' d U U := by
  obtain ⟨S', RD', h1, h2, h3, h4⟩ := h
  exact ⟨S', RD', h1, h2, fun b hb => (h3 b hb).imp (fun e => hU b (.inr (.inr (.inr (.inl e))))) id, h4.mono (fun b _ hb => hU b hb)⟩
theorem rs_same {L L' : LS} (h : LSame L L') : L'.rs.length = L.rs.length := by rw [LS.rs_length, LS.rs_length, h.l]
/-- Put of a page. -/
theorem PC.put (h : PC U w p f l d frames i M) (x : PgV) (kb ko c : Nat) (hb : Bsl w (some ⟨kb, ko, none⟩) c x.d) (hok : x.Ok) (hno : x.no < 8) (hls : x.lsn ≤ i) (hkd : ∃ n, x.d = dataB n) (hkb : ¬ U kb) (hM : M + 1 ≤ 1000000000000000000) :
    Calls Tryz.prog 8 #[.pointer (some ⟨p, 0, none⟩), .agg #[.int .i64 x.no, .int .u64 x.lsn, .slice (some ⟨kb, ko, none⟩) 480 c]] w fun e w' => (e = .returned (.int .i64 0) ∧ ∃ U', PC U' w' p f l d frames i (M + 1) ∧ (∀ b, U' b → U b ∨ w.heap.size ≤ b) ∧ Fr U w w') ∨ (e = .returned (.int .i64 50) ∧ LostE w w' d U U) := by
  obtain ⟨V, RP, RQ, RL, RD, hand, B, rv, fs, cur, S, T, lot, L, h1, h2, h3⟩ := h
  have hnx := h1.und.lh.nx
  by_cases hh : ∃ y ∈ fs, y.2.x.no = x.no
  · obtain ⟨y, hy, hyn⟩ := hh
    obtain ⟨j, hj⟩ := List.mem_iff_getElem?.1 hy
    obtain ⟨b, m⟩ := y
    refine (Put_heldC h1 x kb ko c hb hok hno (by omega) hkd hj hyn).mono ?_
    rintro e w' ⟨rfl, gn, hg1, hg2, hin, hf⟩
    refine .inl ⟨rfl, Uni RP (fun k => RQ k ∨ k = gn) RL RD f, ⟨_, RP, _, RL, RD, hand, B, rv, _, cur, S, T, lot, L, { hin with tm := by have := hin.tm; omega, M1 := hM }, fun b hb => hb, h3⟩, fun b hb => ?_, hf.mono (fun b _ hb => h2 b (.inl hb))⟩
    rcases hb with hb | (hb | hb) | hb | hb | hb
    · exact .inl (h2 b (.inl hb))
    · exact .inl (h2 b (.inr (.inl hb)))
    · exact .inr (by omega)
    · exact .inl (h2 b (.inr (.inr (.inl hb))))
    · exact .inl (h2 b (.inr (.inr (.inr (.inl hb)))))
    · exact .inl (h2 b (.inr (.inr (.inr (.inr hb)))))
  · have hn : ∀ y ∈ fs, y.2.x.no ≠ x.no := fun y hy e => hh ⟨y, hy, e⟩
    refine (Put_newC h1 x kb ko c hb hok hno (by omega) hkd hn hM (fun e => hkb (h2 kb e))).mono ?_
    rintro e w' (⟨rfl, L2, S2, T2, lot2, RP2, RQ2, RD2, hand2, rv2, fs2, cur2, hin, hs, hdd, hsub, hf⟩ | ⟨rfl, hl⟩)
    · exact .inl ⟨rfl, Uni RP2 RQ2 RL RD2 f, ⟨_, RP2, RQ2, RL, RD2, hand2, B, rv2, fs2, cur2, S2, T2, lot2, L2, hin, fun b hb => hb, by rw [rs_same hs]; exact h3⟩, fun b hb => (hsub b hb).imp (h2 b) id, hf.mono (fun b _ hb => h2 b hb)⟩
    · exact .inr ⟨rfl, hl.uni h2⟩
/-- Evict of a page. -/
theorem PC.evict (h : PC U w p f l d frames i M) (no : Nat) (hno : no < 8) (hM : M + 1 ≤ 1000000000000000000) :
    Calls Tryz.prog 10 #[.pointer (some ⟨p, 0, none⟩), .int .i64 no] w fun e w' => (e = .returned (.int .i64 0) ∧ ∃ U', PC U' w' p f l d frames i (M + 1) ∧ (∀ b, U' b → U b ∨ w.heap.size ≤ b) ∧ Fr U w w') ∨ (e = .returned (.int .i64 50) ∧ LostE w w' d U U) := by
  obtain ⟨V, RP, RQ, RL, RD, hand, B, rv, fs, cur, S, T, lot, L, h1, h2, h3⟩ := h
  by_cases hh : ∃ y ∈ fs, y.2.x.no = no
  · obtain ⟨y, hy, hyn⟩ := hh
    obtain ⟨j, hj⟩ := List.mem_iff_getElem?.1 hy
    obtain ⟨b, m⟩ := y
    have hmn : m.x.no = no := hyn
    have hg := Evict_heldC h1 hj hM
    rw [hmn] at hg
    refine hg.mono ?_
    rintro e w' (⟨rfl, L2, S2, T2, lot2, RD2, rv2, fs2, cur2, hin, hs, _, hdd, hsub, hf⟩ | ⟨rfl, hl⟩)
    · refine .inl ⟨rfl, Uni RP RQ RL RD2 f, ⟨V, RP, RQ, RL, RD2, hand, B, rv2, fs2, cur2, S2, T2, lot2, L2, hin, fun b hb => hb, by rw [rs_same hs]; exact h3⟩, fun b hb => ?_, hf.mono (fun b _ hb => h2 b hb)⟩
      rcases hb with hb | hb | hb | hb | hb
      · exact .inl (h2 b (.inl hb))
      · exact .inl (h2 b (.inr (.inl hb)))
      · exact .inl (h2 b (.inr (.inr (.inl hb))))
      · rcases hsub b hb with e | e
        · exact .inl (h2 b (.inr (.inr (.inr (.inl e)))))
        · exact .inr e
      · exact .inl (h2 b (.inr (.inr (.inr (.inr hb)))))
    · exact .inr ⟨rfl, hl.uni h2⟩
  · have hn : ∀ y ∈ fs, y.2.x.no ≠ no := fun y hy e => hh ⟨y, hy, e⟩
    refine (Evict_notC h1 no hno hn).mono ?_
    rintro e w' ⟨rfl, rfl⟩
    exact .inl ⟨rfl, U, ⟨V, RP, RQ, RL, RD, hand, B, rv, fs, cur, S, T, lot, L, { h1 with tm := by have := h1.tm; omega, M1 := hM }, h2, h3⟩, fun b hb => .inl hb, Fr.refl _ _⟩
/-- Flush. -/
theorem PC.flush (h : PC U w p f l d frames i M) (hM : M + 8 ≤ 1000000000000000000) :
    Calls Tryz.prog 14 #[.pointer (some ⟨p, 0, none⟩)] w fun e w' => (e = .returned (.int .i64 0) ∧ ∃ U', PC U' w' p f l d frames i (M + 8) ∧ (∀ b, U' b → U b ∨ w.heap.size ≤ b) ∧ Fr U w w') ∨ (e = .returned (.int .i64 50) ∧ LostE w w' d U U) := by
  obtain ⟨V, RP, RQ, RL, RD, hand, B, rv, fs, cur, S, T, lot, L, h1, h2, h3⟩ := h
  refine (Flush_pinC h1 hM).mono ?_
  rintro e w' (⟨rfl, L2, S2, T2, lot2, RD2, fs2, cur2, hin, hs, _, hsub, hf⟩ | ⟨rfl, hl⟩)
  · refine .inl ⟨rfl, Uni RP RQ RL RD2 f, ⟨V, RP, RQ, RL, RD2, hand, B, rv, fs2, cur2, S2, T2, lot2, L2, hin, fun b hb => hb, by rw [rs_same hs]; exact h3⟩, fun b hb => ?_, hf.mono (fun b _ hb => h2 b hb)⟩
    rcases hb with hb | hb | hb | hb | hb
    · exact .inl (h2 b (.inl hb))
    · exact .inl (h2 b (.inr (.inl hb)))
    · exact .inl (h2 b (.inr (.inr (.inl hb))))
    · rcases hsub b hb with e | e
      · exact .inl (h2 b (.inr (.inr (.inr (.inl e)))))
      · exact .inr e
    · exact .inl (h2 b (.inr (.inr (.inr (.inr hb)))))
  · exact .inr ⟨rfl, hl.uni h2⟩
end
end Go.Proofs.YtccmmnacejdeoaaGreatDoor

/-
  A made world over a new disk, as a pool on a disk that may die.
-/
namespace Go.Proofs.YtccmmnacejdeoaaGreatDoor
set_option linter.unusedSimpArgs false
set_option linter.unusedVariables false
open Go.RowKit Go.Maps

theorem new_places (j : Nat) (hj : j < 8) : secN (DS.new 224).now (65 + 8 * j) 8 = plcB none := by
  have hg : ∀ j, j < 224 → (List.replicate 224 nought)[j]? = some (zeros 64) := fun j hj => by rw [List.getElem?_replicate, if_pos hj]; rfl
  have hs : ∀ m i, i + m ≤ 224 → secN (List.replicate 224 nought) i m = zeros (64 * m) := by
    intro m
    induction m with
    | zero => intro i _; rfl
    | succ m ih =>
      intro i hi
      rw [secN, ih i (by omega), List.getD_eq_getElem?_getD, hg _ (by omega)]
      show zeros (64 * m) ++ zeros 64 = _
      unfold zeros
      rw [List.replicate_append_replicate]; congr 1
  exact hs 8 _ (by omega)
theorem LogH.fresh : LogH (DS.new 224) (LS.empty 144 80) := {
  start := rfl
  n := rfl
  first := rfl
  life := rfl
  laid := ⟨fun i hi => absurd hi (by show ¬ i < 0; omega), rfl⟩
  fl := Nat.le_refl _
  kept := rfl
  nx := rfl
  one := fun r hr => by
    have hr : r ∈ ([] : List (List UInt8)) := hr
    simp at hr
  cnt := by show 0 ≤ 100; omega
  room := rfl
  h0 := fun i _ => (Bare.new 224).lsn _
  sec := fun i hi => by
    have hi : i < secs 0 := hi
    unfold secs at hi; omega
  non := fun i _ _ => (Bare.new 224).good _
  len := by rw [(DS.new_facts 224).1]; omega }
/-- What page.Open, wal.Open and pool.New leave on a new disk. -/
theorem PC.fresh {w : World} {p f l d : Nat} {frames : Int} {RL RD : Nat → Prop} {B : Nat} (hfile : FileAt w f d 0 8 0) (hwal : WalIn w l d (LS.empty 144 80) (DS.new 224) RL RD) (hp : Blk w p 69 #[.pointer (some ⟨f, 0, none⟩), .pointer (some ⟨l, 0, none⟩), .int .i64 frames, .map (some B), .slice none 0 0, .int .i64 0])
    (hB : FrMap w Tryz.prog 3 B 0 (fun _ => none)) (hf1 : 1 ≤ frames) (hf2 : frames ≤ 64)
    (hfl : ¬ RL f ∧ ¬ RD f) (hpl : ¬ RL p ∧ ¬ RD p) (hBl : ¬ RL B ∧ ¬ RD B) :
    PC (Uni (fun b => b = p ∨ b = B) (fun _ => False) RL RD f) w p f l d frames 0 0 := by
  have hln : (DS.new 224).now.length = 224 := (DS.new_facts 224).1
  have hps : PSt (DS.new 224).now 0 8 0 [] (fun _ => none) := PSt.new 224 0 8 (by omega)
  refine ⟨fun no => ⟨no, 0, zeros 480⟩, _, _, RL, RD, 0, B, .slice none 0 0, [], fun _ => none, DS.new 224, 0, [], LS.empty 144 80, ?_, fun b hb => hb, rfl⟩
  have hpf : p ≠ f := Blk.ne_ hp hfile (by decide)
  have hBf : B ≠ f := fun e => hB.blk_ne hfile e.symm
  exact {
    pool := {
      blk := hp
      map := hB
      rnd := World.ownsRow_nil _ _ _ _
      frm := fun y hy => by simp at hy
      dis := by simp [ksOf]
      rp := .inl rfl
      rB := .inr rfl
      rA := fun g hg => by simp [Value.ownBlock] at hg
      ap := fun _ _ h => h
      lt := fun b hb => by
        rcases hb with rfl | rfl
        · exact hp.lt
        · exact hB.lt
      ltq := fun _ h => h.elim
      len := by simp; omega
      f0 := hf1
      f1 := hf2
      h0 := by omega
      h1 := by omega }
    und := {
      file := hfile
      log := hwal.l
      disk := hwal.d
      q := ⟨rfl, rfl⟩
      ps := hps
      good := LogGood.new _ _ (by omega)
      fit1 := Nat.le_refl _
      fit2 := by rw [hln]; exact Nat.le_refl _
      n16 := by show 16 ≤ 80; omega
      pg1 := by omega
      pg2 := by omega
      ap3 := fun b hb => ⟨hwal.apart b hb, fun e => hfl.1 (e ▸ hb)⟩
      ap4 := hfl.2
      p8 := rfl
      lh := LogH.fresh
      plc := fun j hj => ⟨none, new_places j hj, fun x hx => by cases hx⟩
      cl := fun no x _ hx => by cases hx }
    ap := fun b hb => by
      rcases hb with (rfl | rfl) | hb
      · exact ⟨hpl.1, hpl.2, hpf⟩
      · exact ⟨hBl.1, hBl.2, hBf⟩
      · exact hb.elim
    views := ⟨fun y hy => by simp at hy, fun y hy => by simp at hy, fun no _ _ => rfl⟩
    tm := Nat.le_refl _
    M1 := by omega
    kk := fun y hy => by simp at hy
    vok := fun no hno => ⟨⟨by show no < _; omega, by show 0 < _; omega, zeros_length 480⟩, rfl⟩ }

set_option maxHeartbeats 3200000 in
set_option maxRecDepth 100000 in
theorem made5C (frames : Int) (w : World) (h1 : 1 ≤ frames) (h2 : frames ≤ 64) :
    Calls Tryz.prog 6 #[.int .i64 frames] w fun e w' => ∃ g d f l p U, e = .returned (.pointer (some ⟨g, 0, none⟩)) ∧ World5 w' g d f l p ∧ PC U w' p f l d frames 0 0 ∧ (∀ b, U b → w.heap.size ≤ b) ∧ w.heap.size ≤ g ∧ ¬ U g ∧ Fr Nob w w' := by
  have HNe : Hid (∀ W, Calls Tryz.prog 20 #[.int .i64 8] W fun e w' => e = .returned (.int .i64 144) ∧ W = w') := fun W => Need_any 8 W (by omega) (by omega)
  have HNw : Hid (∀ W, Calls Tryz.prog 22 #[.int .i64 224] W fun e w' => ∃ p, e = .returned (.tuple #[.pointer (some ⟨p, 0, none⟩), .int .i64 0]) ∧ W.heap.size ≤ p ∧ DiskOk (fun b => W.heap.size ≤ b ∧ b < w'.heap.size) w' p (DS.new 224) ∧ Fr Nob W w') := fun W => New_good 224 W (by omega) (by omega)
  go_enter Tryz.func6, Tryz.ntmps6
  go_wp2_with fail
  refine (HNe.out _).mono ?_
  rintro e w1 ⟨rfl, rfl⟩
  go_wp2_with fail
  refine (HNw.out _).mono ?_
  rintro e w1 ⟨d, rfl, hd0, hd1, hf1⟩
  have HD1 := Lib.hid hd1
  have HF1 := Lib.hid hf1
  clear hd1 hf1 HNw
  go_wp2_with fail
  have hda : Fr Nob w1 (w1.alloc (.cells (w5cells d (.pointer none) (.pointer none) (.pointer none)) 36)) := (Fr.refl _ w1).alloc _
  have hba : Blk (w1.alloc (.cells (w5cells d (.pointer none) (.pointer none) (.pointer none)) 36)) w1.heap.size 36 (w5cells d (.pointer none) (.pointer none) (.pointer none)) := Blk.new _ _ _
  have hza : (w1.alloc (.cells (w5cells d (.pointer none) (.pointer none) (.pointer none)) 36)).heap.size = w1.heap.size + 1 := by simp
  have HOp := Lib.hid (Open_fresh (pages := 8) (HD1.out.new hda) (by omega) (by omega) (by omega))
  have HBa := Lib.hid hba
  have HFa := Lib.hid (HF1.out.trans hda)
  have HZa := Lib.hid hza
  obtain ⟨g, hg⟩ : ∃ g, w1.heap.size = g := ⟨_, rfl⟩
  obtain ⟨wa, hwa⟩ : ∃ W, w1.alloc (.cells (w5cells d (.pointer none) (.pointer none) (.pointer none)) 36) = W := ⟨_, rfl⟩
  rw [hwa] at HOp HBa HFa HZa
  rw [hg] at HBa HZa
  have HG := Lib.hid hg
  unfold w5cells at hwa
  rw [hwa]
  clear hda hba hza hwa
  refine HOp.out.mono ?_
  rintro e w2 ⟨f, R2, rfl, hf0, hf1, hfa2, hd2, hnf2, hsub2, hfr2⟩
  have HFile2 := Lib.hid hfa2
  have HNf2 := Lib.hid hnf2
  have HSub2 := Lib.hid hsub2
  have HFr2 := Lib.hid hfr2
  have HWal := Lib.hid (Open_new 144 80 hd2 (by omega) (by omega) (by omega))
  have HD2 := Lib.hid hd2
  clear hfa2 hnf2 hsub2 hfr2 hd2 HOp
  go_wp2_with fail
  refine (HNe.out _).mono ?_
  rintro e w3 ⟨rfl, rfl⟩
  go_wp2_with fail
  refine HWal.out.mono ?_
  rintro e w3 ⟨l, rfl, hl0, ⟨RL, RD, hwal, hRL, hRD⟩, hfr3⟩
  have HWi := Lib.hid hwal
  have HRL := Lib.hid hRL
  have HRD := Lib.hid hRD
  have HFr3 := Lib.hid hfr3
  have HPn := Lib.hid (PNew_good ⟨f, 0, none⟩ ⟨l, 0, none⟩ frames w3 h1 h2)
  clear hwal hRL hRD hfr3 HWal
  go_wp2_with fail
  refine HPn.out.mono ?_
  rintro e w4 ⟨rfl, hw4⟩
  have hz2 : wa.heap.size ≤ w2.heap.size := HFr2.out.size
  have hz3 : w2.heap.size ≤ w3.heap.size := HFr3.out.size
  have hwg := HZa.out
  have hgz := HG.out
  have h1z := HF1.out.size
  have hR2 : ∀ b, R2 b → (w.heap.size ≤ b ∧ b ≠ g) := fun b hb => by
    rcases HSub2.out b hb with e | e
    · omega
    · omega
  have hng2 : ¬ R2 g := fun e => (hR2 g e).2 rfl
  have hb2 := HBa.out.fr HFr2.out (fun e => by
    have e := (show Mut _ wa g from e).1
    omega)
  have hb3 := hb2.fr HFr3.out (fun e => hng2 e.1)
  have hf3 : Fr Nob w3 w4 := by rw [hw4]; exact ((Fr.refl _ w3).alloc _).alloc _
  have hb4 := hb3.fr hf3 (fun h => h)
  have HB4 := Lib.hid hb4
  have hfile4 : FileAt w4 f d 0 8 0 := (HFile2.out.fr HFr3.out (fun e => HNf2.out e.1)).fr hf3 (fun h => h)
  have HFile4 := Lib.hid hfile4
  have HW4 := Lib.hid hw4
  have HF34 := Lib.hid hf3
  have b1 := hb4.cell 1
  have b2 := hb4.cell 2
  have b3 := hb4.cell 3
  have q1 := hb4.frozen 1
  have q2 := hb4.frozen 2
  have q3 := hb4.frozen 3
  have sz := hb4.lt
  unfold w5cells at b1 b2 b3
  simp only [List.getElem?_toArray, List.getElem?_cons_zero, List.getElem?_cons_succ] at b1 b2 b3
  clear hb2 hb3 hb4 hf3 hfile4 HPn hw4
  go_wp2
  go_ret
  have hbE := ((HB4.out.set_ 1 (.pointer (some ⟨f, 0, none⟩))).set_ 2 (.pointer (some ⟨l, 0, none⟩))).set_ 3 (.pointer (some ⟨w3.heap.size + 1, 0, none⟩))
  have hfE : Fr (fun b => b = g) w4 (((w4.setCell ⟨g, 1, none⟩ (.pointer (some ⟨f, 0, none⟩))).setCell ⟨g, 2, none⟩ (.pointer (some ⟨l, 0, none⟩))).setCell ⟨g, 3, none⟩ (.pointer (some ⟨w3.heap.size + 1, 0, none⟩))) :=
    (((Fr.refl (fun b => b = g) w4).setCell (p := ⟨g, 1, none⟩) (.inr rfl) _).setCell (p := ⟨g, 2, none⟩) (.inr rfl) _).setCell (p := ⟨g, 3, none⟩) (.inr rfl) _
  have hz4 : w3.heap.size + 2 = w4.heap.size := by rw [HW4.out]; simp
  have hpb : Blk w4 (w3.heap.size + 1) 69 #[.pointer (some ⟨f, 0, none⟩), .pointer (some ⟨l, 0, none⟩), .int .i64 frames, .map (some w3.heap.size), .slice none 0 0, .int .i64 0] := by
    rw [HW4.out]
    have := Blk.new (w3.alloc (.map #[] 0)) 69 #[.pointer (some ⟨f, 0, none⟩), .pointer (some ⟨l, 0, none⟩), .int .i64 frames, .map (some w3.heap.size), .slice none 0 0, .int .i64 0]
    simpa using this
  have hmap : FrMap w4 Tryz.prog 3 w3.heap.size 0 (fun _ => none) := by
    rw [HW4.out]
    exact (FrMap.empty w3 Tryz.prog 3).fr ((Fr.refl Nob _).alloc _) (fun h => h)
  have hRLw : ∀ b, RL b → w2.heap.size ≤ b ∧ b < w3.heap.size := fun b hb => ⟨HRL.out b hb, HWi.out.l.lt hb⟩
  have hRDw : ∀ b, RD b → (R2 b ∨ w2.heap.size ≤ b) ∧ b < w3.heap.size := fun b hb => ⟨HRD.out b hb, HWi.out.d.lt hb⟩
  have hf2z : f < w2.heap.size := hf1
  have hwal4 : WalIn w4 l d (LS.empty 144 80) (DS.new 224) RL RD := ⟨HWi.out.l.new HF34.out, HWi.out.d.new HF34.out, HWi.out.apart, HWi.out.fits⟩
  have hok := PC.fresh (frames := frames) HFile4.out hwal4 hpb hmap h1 h2 ⟨fun e => by have := hRLw f e; omega, fun e => by
    rcases (hRDw f e).1 with e | e
    · exact HNf2.out e
    · omega⟩ ⟨fun e => by have := hRLw _ e; omega, fun e => by have := (hRDw _ e).2; omega⟩ ⟨fun e => by have := hRLw _ e; omega, fun e => by have := (hRDw _ e).2; omega⟩
  have hU : ∀ b, Uni (fun b => b = w3.heap.size + 1 ∨ b = w3.heap.size) (fun _ => False) RL RD f b → w.heap.size ≤ b ∧ b ≠ g := fun b hb => by
    rcases hb with (hb | hb) | hb | hb | hb | hb
    · omega
    · omega
    · exact hb.elim
    · have := hRLw b hb; omega
    · rcases (hRDw b hb).1 with e | e
      · exact hR2 b e
      · omega
    · omega
  refine ⟨g, d, f, l, w3.heap.size + 1, _, rfl, hbE, hok.fr hfE (fun b hb e => (hU b hb).2 e), fun b hb => (hU b hb).1, by omega, fun e => (hU g e).2 rfl, ?_⟩
  refine ((((HFa.out.step HFr2.out (fun i hi e => ?_)).step HFr3.out (fun i hi e => ?_)).trans HF34.out).step hfE (fun i hi e => ?_))
  · have := (show Mut _ wa i from e).1; omega
  · have := hR2 i (show Mut R2 w2 i from e).1; omega
  · have e : i = g := e
    omega
end Go.Proofs.YtccmmnacejdeoaaGreatDoor

/-
  The file and the log, opened behind a crash: each page can be read, and its LSN lies below the log's next.
-/
namespace Go.Proofs.YtccmmnacejdeoaaGreatDoor
set_option linter.unusedSimpArgs false
set_option linter.unusedVariables false
open Go.RowKit Go.Maps

theorem layNow_hi {now : List (List UInt8)} {l : List PgV} (hl : ∀ x ∈ l, x.no < 8) (j : Nat) (hj : 64 ≤ j) (k : Nat) : (layNow now 0 l k)[j]? = now[j]? := layNow_other (pages := 8) hl j (by omega) k
/-- What Open finds of the file. -/
theorem FileS.opens {S : DS} {K : Nat} (h : FileS S.now K) (hst : Still S) : ∃ hb, S.now[64]? = some hb ∧ PSound (openRun S 0 8 hb).1.now 0 8 ∧ (∀ no, no < 8 → (pgAt (openRun S 0 8 hb).1.now 0 no).lsn ≤ K) ∧ (∀ j, 64 ≤ j → (openRun S 0 8 hb).1.now[j]? = S.now[j]?) ∧ (openRun S 0 8 hb).1.now.length = S.now.length ∧ (openRun S 0 8 hb).2 = 0 ∧ Still (openRun S 0 8 hb).1 := by
  obtain ⟨hb, c, h1, h2⟩ := h.fin
  obtain ⟨o1, o2, o3⟩ := hst.openRun 0 8 hb
  have hlen := h.len
  obtain ⟨_, hrok⟩ := lfRes_ok (now := S.now) (h := hb) (pages := 8) (at0 := 0) h.s64 (by omega) (by omega)
  obtain ⟨N, hN⟩ : ∃ N, (openRun S 0 8 hb).1.now = N := ⟨_, rfl⟩
  rw [hN] at o3
  have o3 : N = layNow S.now 0 (lfRes S.now 64 8 hb) (lfRes S.now 64 8 hb).length := o3
  have hpg : ∀ no, no < 8 → secN N (0 + 8 * no) 8 = curB (c no) := fun no hno => by rw [o3, Nat.zero_add]; exact (h2 no hno).1
  refine ⟨hb, h1, ?_, fun no hno => ?_, fun j hj => ?_, ?_, o1, o2⟩
  · rw [hN]
    refine ⟨?_, ?_, fun no hno => ?_⟩
    · rw [o3]
      exact layNow_64 h.s64 (fun x hx => (hrok x hx).1) _
    · rw [o3, layNow_length]; omega
    · rw [hpg no hno]
      cases hc : c no with
      | none => exact .inl (zeros_all 512)
      | some x =>
        right
        obtain ⟨x1, x2, x3⟩ := (h2 no hno).2 x hc
        show (imgB x 0).all (· == 0) = false ∧ _
        exact ⟨img_some x 0 x1, img_ok x 0 x1 (by omega), by rw [show curB (some x) = imgB x 0 from rfl, img_x x 0 x1]; exact x2, img_turn x 0 x1.d (by omega)⟩
  · rw [hN]
    unfold pgAt
    rw [hpg no hno]
    cases hc : c no with
    | none => rw [if_pos (show (curB none).all (· == 0) = true from zeros_all 512)]; exact Nat.zero_le _
    | some x =>
      obtain ⟨x1, x2, x3⟩ := (h2 no hno).2 x hc
      rw [show curB (some x) = imgB x 0 from rfl, if_neg (by rw [img_some x 0 x1]; decide), img_x x 0 x1]
      exact x3
  · rw [hN, o3]
    exact layNow_hi (fun x hx => (hrok x hx).2) j hj _
  · rw [hN, o3, layNow_length]
theorem PSound.agree {a b : List (List UInt8)} (h : PSound a 0 8) (h64 : ∀ (j : Nat) s, b[j]? = some s → s.length = 64) (hl : b.length = a.length) (hj : ∀ j, j < 64 → b[j]? = a[j]?) : PSound b 0 8 := by
  refine ⟨h64, by rw [hl]; exact h.len, fun no hno => ?_⟩
  rw [secN_congr (b := a) (0 + 8 * no) 8 (fun k hk => hj _ (by omega))]
  exact h.page no hno
theorem pgAt_agree {a b : List (List UInt8)} (hj : ∀ j, j < 64 → b[j]? = a[j]?) (no : Nat) (hno : no < 8) : pgAt b 0 no = pgAt a 0 no := by
  unfold pgAt
  rw [secN_congr (b := a) (0 + 8 * no) 8 (fun k hk => hj _ (by omega))]
section
variable {R : Nat → Prop} {w w' : World} {d : Nat} {S : DS} {K : Nat}
/-- page.Open behind a crash. -/
theorem file_open (hd : DiskOk R w d S) (hst : Still S) (h : FileS S.now K) :
    Calls Tryz.prog 18 #[.pointer (some ⟨d, 0, none⟩), .int .i64 0, .int .i64 8] w fun e w' => ∃ p R' S' t, e = .returned (.tuple #[.pointer (some ⟨p, 0, none⟩), .int .i64 0]) ∧ w.heap.size ≤ p ∧ p < w'.heap.size ∧ FileAt w' p d 0 8 t ∧ DiskOk R' w' d S' ∧ Still S' ∧ PSound S'.now 0 8 ∧ (∀ no, no < 8 → (pgAt S'.now 0 no).lsn ≤ K) ∧ (∀ j, 64 ≤ j → S'.now[j]? = S.now[j]?) ∧ S'.now.length = S.now.length ∧ ¬ R' p ∧ (∀ b, R' b → R b ∨ w.heap.size ≤ b) ∧ Fr R w w' := by
  obtain ⟨hb, h1, h2, h3, h4, h5, h6, h7⟩ := h.opens hst
  have hlen := h.len
  refine (Open_run (hb := hb) 0 8 hd hst.calm.dead (by omega) (by omega) (by omega) h1 (by rw [hst.waits]; simp) h6 h7.calm.dead h2 (by omega)).mono ?_
  rintro e w' ⟨p, R', rfl, q1, q2, q3, q4, q5, q6, q7⟩
  exact ⟨p, R', _, _, rfl, q1, q2, q3, q4, h7, h2, h3, h4, h5, q5, q6, q7.fr⟩
/-- wal.Open behind it. -/
theorem log_open (hd : DiskOk R w d S) (hst : Still S) (h : LogS S K) (hlen : 224 ≤ S.now.length) :
    Calls Tryz.prog 19 #[.pointer (some ⟨d, 0, none⟩), .int .i64 144, .int .i64 80] w fun e w' => ∃ p L RL RD S', e = .returned (.tuple #[.pointer (some ⟨p, 0, none⟩), .int .i64 0]) ∧ K < L.next ∧ LogOk RL w' p d L ∧ DiskOk RD w' d S' ∧ S'.dead = false ∧ (∀ j, j < 144 → S'.now[j]? = S.now[j]?) ∧ S'.now.length = S.now.length ∧ (∀ b, RD b → R b ∨ w.heap.size ≤ b) ∧ (∀ b, RL b → w.heap.size ≤ b) ∧ Fr R w w' := by
  have hse : S.settled = S := by unfold DS.settled; rw [hst.waits]; rfl
  have hop := h.opHead
  obtain ⟨k1, k2, k3⟩ := h.opened
  obtain ⟨L, hL⟩ : ∃ L, LS.opened 144 80 S = L := ⟨_, rfl⟩
  rw [hL] at k1 k2 k3
  have hpl : ∀ x, 144 ≤ L.place x := fun x => by unfold LS.place; omega
  have htr : L.trimCode S = 0 ∧ (L.trimmed S).dead = false ∧ (∀ j, j < 144 → (L.trimmed S).now[j]? = S.now[j]?) := by
    unfold LS.trimCode LS.trimmed
    cases L.cutB S with
    | none => exact ⟨rfl, hst.calm.dead, fun _ _ => rfl⟩
    | some s =>
      have hc := hst.calm.wr (L.place (L.fin / 48)) s
      dsimp only
      refine ⟨by unfold DS.fcode; rw [if_neg (by rw [hc.dead]; decide)], hc.flushed.dead, fun j hj => ?_⟩
      rw [hc.flushed_eq]
      show (S.wr (L.place (L.fin / 48)) s).now[j]? = _
      rw [hst.calm.wr_now, List.getElem?_set, if_neg (by have := hpl (L.fin / 48); omega)]
  have hmain := Open_good (S := S) 144 80 hd (by omega) (by omega) (by omega) (by rw [hst.waits]; simp) hst.calm.dead (by rw [hse]; exact hst.calm.dead) (by rw [hse, hop]; show (0 : Nat) < _; omega) (by rw [hse, hop]; show (1 : Nat) < _; omega) (by rw [hse, hL]; exact htr.1)
  rw [hse, hL] at hmain
  refine hmain.mono ?_
  rintro e w' ⟨p, rfl, q1, ⟨⟨RL, RD, hw, r1, r2⟩, hf⟩⟩
  exact ⟨p, L, RL, RD, _, rfl, k1, hw.l, hw.d, htr.2.1, htr.2.2, trimmed_length L S, r2, r1, hf.fr⟩
end
end Go.Proofs.YtccmmnacejdeoaaGreatDoor
