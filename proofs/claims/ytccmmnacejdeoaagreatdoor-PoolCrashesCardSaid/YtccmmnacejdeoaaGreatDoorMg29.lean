/-
  PoolOk, PoolMade, PoolMade2, PgCrc, in one text.
-/
import Derived.Test.YtccmmnacejdeoaaGreatDoorMg28
import Derived.Test.YtccmmnacejdeoaaGreatDoorMg13
import Derived.Test.YtccmmnacejdeoaaGreatDoorMg22
import Derived.Test.YtccmmnacejdeoaaGreatDoorMg20
/-
  A pool as its callers see it (PoolOk): the pages, whatever is held where.
-/
namespace Go.Proofs.YtccmmnacejdeoaaGreatDoor
set_option linter.unusedSimpArgs false
set_option linter.unusedVariables false
open Go.RowKit Go.Maps

/-- A pool over a file of so many pages and a log: it has the pages V; all that it is made of lies in U; what is not in the file as it is lies in Dt. -/
def PoolOk (U : Nat → Prop) (w : World) (p f l d pages : Nat) (frames : Int) (V : Nat → PgV) (L : LS) (M N : Nat) (Dt : Nat → Prop) : Prop :=
  ∃ RP RQ RL RD hand B rv fs cur S T lot L', PIn w p f l d pages frames V L' M N RP RQ RL RD hand B rv fs cur S T lot ∧ LSame L L' ∧ (∀ b, Uni RP RQ RL RD f b → U b) ∧ ∀ y ∈ fs, y.2.dirty = true → Dt y.2.x.no
section
variable {U F : Nat → Prop} {w w' : World} {p f l d pages : Nat} {frames : Int} {V : Nat → PgV} {L : LS} {M N : Nat} {Dt : Nat → Prop}
theorem PoolOk.fr (h : PoolOk U w p f l d pages frames V L M N Dt) (hf : Fr F w w') (hF : ∀ b, U b → ¬ F b) : PoolOk U w' p f l d pages frames V L M N Dt := by
  obtain ⟨RP, RQ, RL, RD, hand, B, rv, fs, cur, S, T, lot, L', h1, h2, h3, h4⟩ := h
  exact ⟨RP, RQ, RL, RD, hand, B, rv, fs, cur, S, T, lot, L', h1.fr hf (fun b hb => hF b (h3 b hb)), h2, h3, h4⟩
theorem PoolOk.new (h : PoolOk U w p f l d pages frames V L M N Dt) (hf : Fr Nob w w') : PoolOk U w' p f l d pages frames V L M N Dt := h.fr hf (fun _ _ h => h)
theorem PoolOk.vok (h : PoolOk U w p f l d pages frames V L M N Dt) (no : Nat) (hno : no < pages) : (V no).Ok ∧ (V no).no = no := by
  obtain ⟨RP, RQ, RL, RD, hand, B, rv, fs, cur, S, T, lot, L', h1, h2, h3, h4⟩ := h
  exact h1.vok no hno
theorem PoolOk.more (h : PoolOk U w p f l d pages frames V L M N Dt) {K : Nat} (hK : M ≤ K) (h1 : K ≤ 1000000000000000000) : PoolOk U w p f l d pages frames V L K N Dt := by
  obtain ⟨RP, RQ, RL, RD, hand, B, rv, fs, cur, S, T, lot, L', h2, h3⟩ := h
  exact ⟨RP, RQ, RL, RD, hand, B, rv, fs, cur, S, T, lot, L', { h2 with tm := Nat.le_trans h2.tm hK, M1 := h1 }, h3⟩
theorem PoolOk.trim (h : PoolOk U w p f l d pages frames V L M N Dt) : PoolOk (fun b => U b ∧ b < w.heap.size) w p f l d pages frames V L M N Dt := by
  obtain ⟨RP, RQ, RL, RD, hand, B, rv, fs, cur, S, T, lot, L', h1, h2, h3, h4⟩ := h
  exact ⟨RP, RQ, RL, RD, hand, B, rv, fs, cur, S, T, lot, L', h1, h2, fun b hb => ⟨h3 b hb, h1.lt hb⟩, h4⟩
theorem PoolOk.dmono (h : PoolOk U w p f l d pages frames V L M N Dt) {Dt' : Nat → Prop} (hd : ∀ k, Dt k → Dt' k) : PoolOk U w p f l d pages frames V L M N Dt' := by
  obtain ⟨RP, RQ, RL, RD, hand, B, rv, fs, cur, S, T, lot, L', h1, h2, h3, h4⟩ := h
  exact ⟨RP, RQ, RL, RD, hand, B, rv, fs, cur, S, T, lot, L', h1, h2, h3, fun y hy e => hd _ (h4 y hy e)⟩
/-- Get. -/
theorem PoolOk.get (h : PoolOk U w p f l d pages frames V L M N Dt) (no : Nat) (hno : no < pages) (hM : M + 1 ≤ 1000000000000000000) :
    Calls Tryz.prog 9 #[.pointer (some ⟨p, 0, none⟩), .int .i64 no] w fun e w' => ∃ g, e = .returned (.tuple #[.agg #[.int .i64 no, .int .u64 (V no).lsn, .slice (some ⟨g, 0, none⟩) 480 480], .int .i64 0]) ∧ CopyIn w' g (V no).d ∧ w.heap.size ≤ g ∧ ∃ U', PoolOk U' w' p f l d pages frames V L (M + 1) N Dt ∧ ¬ U' g ∧ (∀ b, U' b → U b ∨ w.heap.size ≤ b) ∧ Fr U w w' := by
  obtain ⟨RP, RQ, RL, RD, hand, B, rv, fs, cur, S, T, lot, L', h1, h2, h3, h4⟩ := h
  obtain ⟨hvo, hvn⟩ := h1.vok no hno
  by_cases hh : ∃ y ∈ fs, y.2.x.no = no
  · obtain ⟨y, hy, hyn⟩ := hh
    obtain ⟨i, hi⟩ := List.mem_iff_getElem?.1 hy
    obtain ⟨b, m⟩ := y
    have hx : m.x = V no := by
      have := h1.views.held _ hy
      dsimp only at this hyn
      rw [hyn] at this
      exact this
    have hmn : m.x.no = no := hyn
    have hg := Get_held h1 hi
    rw [hmn, hx] at hg
    refine hg.mono ?_
    rintro e w' ⟨g, rfl, hc, hgg, hin, hf⟩
    refine ⟨g, rfl, hc, hgg, Uni RP RQ RL RD f, ⟨RP, RQ, RL, RD, hand, B, rv, _, cur, S, T, lot, L', { hin with tm := by have := hin.tm; omega, M1 := hM }, h2, fun b hb => hb, fun y hy hd => (List.mem_or_eq_of_mem_set hy).elim (fun hy => h4 y hy hd) (fun e => by rw [e] at hd ⊢; have h5 := h4 _ (List.mem_of_getElem? hi) hd; dsimp only at h5 ⊢; rw [hx] at h5; exact h5)⟩, fun e => ?_, fun b hb => .inl (h3 b hb), hf.mono (fun b _ hb => h3 b (.inl hb))⟩
    have := h1.lt e; omega
  · have hn : ∀ y ∈ fs, y.2.x.no ≠ no := fun y hy e => hh ⟨y, hy, e⟩
    have hg := Get_new h1 (V no) (by rw [hvn]; exact hno) (fun y hy => by rw [hvn]; exact hn y hy) (by rw [hvn]) hM
    rw [hvn] at hg
    refine hg.mono ?_
    rintro e w' ⟨g, rfl, hc, hgg, L2, S2, T2, lot2, RP2, RQ2, RD2, hand2, rv2, fs2, cur2, hin, hs, hdd, hug, hsub, hf⟩
    exact ⟨g, rfl, hc, hgg, Uni RP2 RQ2 RL RD2 f, ⟨RP2, RQ2, RL, RD2, hand2, B, rv2, fs2, cur2, S2, T2, lot2, L2, hin, h2.trans hs, fun b hb => hb, fun y hy hd => by
      obtain ⟨z, hz, e1, e2⟩ := hdd y hy hd
      rw [← e1]; exact h4 z hz e2⟩, hug, fun b hb => (hsub b hb).imp (h3 b) id, hf.mono (fun b _ hb => h3 b hb)⟩
/-- Put of a page. -/
theorem PoolOk.put (h : PoolOk U w p f l d pages frames V L M N Dt) (x : PgV) (kb ko c : Nat) (hb : Bsl w (some ⟨kb, ko, none⟩) c x.d) (hok : x.Ok) (hno : x.no < pages) (hls : x.lsn < L.next) (hkb : ¬ U kb) (hM : M + 1 ≤ 1000000000000000000) :
    Calls Tryz.prog 8 #[.pointer (some ⟨p, 0, none⟩), .agg #[.int .i64 x.no, .int .u64 x.lsn, .slice (some ⟨kb, ko, none⟩) 480 c]] w fun e w' => e = .returned (.int .i64 0) ∧ ∃ U', PoolOk U' w' p f l d pages frames (fun no => if no = x.no then x else V no) L (M + 1) N (fun k => Dt k ∨ k = x.no) ∧ (∀ b, U' b → U b ∨ w.heap.size ≤ b) ∧ Fr U w w' := by
  obtain ⟨RP, RQ, RL, RD, hand, B, rv, fs, cur, S, T, lot, L', h1, h2, h3, h4⟩ := h
  by_cases hh : ∃ y ∈ fs, y.2.x.no = x.no
  · obtain ⟨y, hy, hyn⟩ := hh
    obtain ⟨i, hi⟩ := List.mem_iff_getElem?.1 hy
    obtain ⟨b, m⟩ := y
    refine (Put_held h1 x kb ko c hb hok hno (by rw [h2.next]; exact hls) hi hyn).mono ?_
    rintro e w' ⟨rfl, gn, hg1, hg2, hin, hf⟩
    refine ⟨rfl, Uni RP (fun k => RQ k ∨ k = gn) RL RD f, ⟨RP, _, RL, RD, hand, B, rv, _, cur, S, T, lot, L', { hin with tm := by have := hin.tm; omega, M1 := hM }, h2, fun b hb => hb, fun y hy hd => (List.mem_or_eq_of_mem_set hy).elim (fun hy => .inl (h4 y hy hd)) (fun e => by rw [e]; exact .inr rfl)⟩, fun b hb => ?_, hf.mono (fun b _ hb => h3 b (.inl hb))⟩
    rcases hb with hb | (hb | hb) | hb | hb | hb
    · exact .inl (h3 b (.inl hb))
    · exact .inl (h3 b (.inr (.inl hb)))
    · exact .inr (by omega)
    · exact .inl (h3 b (.inr (.inr (.inl hb))))
    · exact .inl (h3 b (.inr (.inr (.inr (.inl hb)))))
    · exact .inl (h3 b (.inr (.inr (.inr (.inr hb)))))
  · have hn : ∀ y ∈ fs, y.2.x.no ≠ x.no := fun y hy e => hh ⟨y, hy, e⟩
    refine (Put_new h1 x kb ko c hb hok hno (by rw [h2.next]; exact hls) hn hM (fun e => hkb (h3 kb e))).mono ?_
    rintro e w' ⟨rfl, L2, S2, T2, lot2, RP2, RQ2, RD2, hand2, rv2, fs2, cur2, hin, hs, hdd, hsub, hf⟩
    exact ⟨rfl, Uni RP2 RQ2 RL RD2 f, ⟨RP2, RQ2, RL, RD2, hand2, B, rv2, fs2, cur2, S2, T2, lot2, L2, hin, h2.trans hs, fun b hb => hb, fun y hy hd => by
      rcases hdd y hy hd with e | ⟨z, hz, e1, e2⟩
      · exact .inr e
      · rw [← e1]; exact .inl (h4 z hz e2)⟩, fun b hb => (hsub b hb).imp (h3 b) id, hf.mono (fun b _ hb => h3 b hb)⟩
/-- Evict. -/
theorem PoolOk.evict (h : PoolOk U w p f l d pages frames V L M N Dt) (no : Nat) (hno : no < pages) (hM : M + 1 ≤ 1000000000000000000) :
    Calls Tryz.prog 10 #[.pointer (some ⟨p, 0, none⟩), .int .i64 no] w fun e w' => e = .returned (.int .i64 0) ∧ ∃ U', PoolOk U' w' p f l d pages frames V L (M + 1) N (fun k => Dt k ∧ k ≠ no) ∧ (∀ b, U' b → U b ∨ w.heap.size ≤ b) ∧ Fr U w w' := by
  obtain ⟨RP, RQ, RL, RD, hand, B, rv, fs, cur, S, T, lot, L', h1, h2, h3, h4⟩ := h
  by_cases hh : ∃ y ∈ fs, y.2.x.no = no
  · obtain ⟨y, hy, hyn⟩ := hh
    obtain ⟨i, hi⟩ := List.mem_iff_getElem?.1 hy
    obtain ⟨b, m⟩ := y
    have hmn : m.x.no = no := hyn
    have hg := Evict_held h1 hi hM
    rw [hmn] at hg
    refine hg.mono ?_
    rintro e w' ⟨rfl, L2, S2, T2, lot2, RD2, rv2, fs2, cur2, hin, hs, _, hdd, hsub, hf⟩
    refine ⟨rfl, Uni RP RQ RL RD2 f, ⟨RP, RQ, RL, RD2, hand, B, rv2, fs2, cur2, S2, T2, lot2, L2, hin, h2.trans hs, fun b hb => hb, fun y hy hd => by
      obtain ⟨e0, z, hz, e1, e2⟩ := hdd y hy
      exact ⟨by rw [← e1]; exact h4 z hz (e2 hd), e0⟩⟩, fun b hb => ?_, hf.mono (fun b _ hb => h3 b hb)⟩
    rcases hb with hb | hb | hb | hb | hb
    · exact .inl (h3 b (.inl hb))
    · exact .inl (h3 b (.inr (.inl hb)))
    · exact .inl (h3 b (.inr (.inr (.inl hb))))
    · rcases hsub b hb with e | e
      · exact .inl (h3 b (.inr (.inr (.inr (.inl e)))))
      · exact .inr e
    · exact .inl (h3 b (.inr (.inr (.inr (.inr hb)))))
  · have hn : ∀ y ∈ fs, y.2.x.no ≠ no := fun y hy e => hh ⟨y, hy, e⟩
    refine (Evict_not h1 no hno hn).mono ?_
    rintro e w' ⟨rfl, rfl⟩
    exact ⟨rfl, U, ⟨RP, RQ, RL, RD, hand, B, rv, fs, cur, S, T, lot, L', { h1 with tm := by have := h1.tm; omega, M1 := hM }, h2, h3, fun y hy hd => ⟨h4 y hy hd, hn y hy⟩⟩, fun b hb => .inl hb, Fr.refl _ _⟩
/-- A record is put behind the others. -/
theorem PoolOk.append (h : PoolOk U w p f l d pages frames V L M N Dt) (a : Addr) (c : Nat) (b : List UInt8) (hb : BytesIn w (some a) b) (ha : a.block < w.heap.size) (hlen : b.length ≤ 2000) (hr : b.length + 16 ≤ L.room) (hN : N + 1 ≤ 400000) :
    Calls Tryz.prog 12 #[.pointer (some ⟨l, 0, none⟩), .slice (some a) b.length c] w fun e w' => e = .returned (.tuple #[.int .u64 L.next, .int .i64 0]) ∧ ∃ U', PoolOk U' w' p f l d pages frames V (L.add b) M (N + 1) Dt ∧ (∀ b, U' b → U b ∨ w.heap.size ≤ b) ∧ Fr U w w' := by
  obtain ⟨RP, RQ, RL, RD, hand, B, rv, fs, cur, S, T, lot, L', h1, h2, h3, h4⟩ := h
  have hap := h1.und.append a c b hb ha hlen (by rw [h2.room]; exact hr) hN
  rw [h2.next] at hap
  refine hap.mono ?_
  rintro e w' ⟨rfl, RL2, hu, hsub, hf⟩
  have hRU : ∀ x, RL2 x → RL x ∨ w.heap.size ≤ x := hsub
  have hfU : ∀ x, RL x → U x := fun x hx => h3 x (.inr (.inr (.inl hx)))
  have hsz := hf.size
  have hap' : ∀ x, RP x ∨ RQ x → ¬ RL2 x ∧ ¬ RD x ∧ x ≠ f := fun x hx => ⟨fun e => by
    rcases hsub x e with e | e
    · exact (h1.ap x hx).1 e
    · rcases hx with hx | hx
      · have := h1.pool.lt x hx; omega
      · have := h1.pool.ltq x hx; omega, (h1.ap x hx).2⟩
  refine ⟨rfl, Uni RP RQ RL2 RD f, ⟨RP, RQ, RL2, RD, hand, B, rv, fs, cur, S, T, lot, L'.add b, { h1 with
    pool := h1.pool.fr hf (fun x hx e => (h1.ap x (.inl hx)).1 e) (fun x hx e => (h1.ap x (.inr hx)).1 e)
    und := hu
    ap := hap' }, ?_, fun b hb => hb, h4⟩, fun x hx => ?_, hf.mono (fun x _ hx => hfU x hx)⟩
  · exact ⟨h2.start, h2.n, h2.first, by show L'.next + 1 = L.next + 1; rw [h2.next], by show L'.l ++ [(b, L'.fin)] = L.l ++ [(b, L.fin)]; rw [h2.l, h2.fin], by show L'.fin + _ = L.fin + _; rw [h2.fin], by show L'.room - _ = L.room - _; rw [h2.room], h2.life, h2.turn⟩
  · rcases hx with hx | hx | hx | hx | hx
    · exact .inl (h3 x (.inl hx))
    · exact .inl (h3 x (.inr (.inl hx)))
    · rcases hsub x hx with e | e
      · exact .inl (hfU x e)
      · exact .inr e
    · exact .inl (h3 x (.inr (.inr (.inr (.inl hx)))))
    · exact .inl (h3 x (.inr (.inr (.inr (.inr hx)))))
end
end Go.Proofs.YtccmmnacejdeoaaGreatDoor

/-
  A pool over a new disk.
-/
namespace Go.Proofs.YtccmmnacejdeoaaGreatDoor
set_option linter.unusedSimpArgs false
set_option linter.unusedVariables false
open Go.RowKit Go.Maps

theorem Open_fresh {R : Nat → Prop} {w : World} {d n pages : Nat} (hd : DiskOk R w d (DS.new n)) (h1 : 1 ≤ pages) (h2 : pages ≤ 4096) (hat : 8 * pages + 80 ≤ n) :
    Calls Tryz.prog 18 #[.pointer (some ⟨d, 0, none⟩), .int .i64 0, .int .i64 pages] w fun e w' => ∃ p R', e = .returned (.tuple #[.pointer (some ⟨p, 0, none⟩), .int .i64 0]) ∧ w.heap.size ≤ p ∧ p < w'.heap.size ∧ FileAt w' p d 0 pages 0 ∧ DiskOk R' w' d (DS.new n) ∧ ¬ R' p ∧ (∀ b, R' b → R b ∨ w.heap.size ≤ b) ∧ FrD R w w' := by
  have hst := Still.new n
  have hps : PSt (DS.new n).now 0 pages 0 [] (fun _ => none) := PSt.new n 0 pages (by omega)
  obtain ⟨hb, hh, e1, e2⟩ := hps.left
  have hln : (DS.new n).now.length = n := (DS.new_facts n).1
  have hrun : openRun (DS.new n) 0 pages hb = (DS.new n, 0) := by
    unfold openRun
    rw [if_pos (by rw [e1])]
  have := Open_run (at0 := 0) (pages := pages) hd hst.calm.dead h1 h2 (by rw [hln]; omega) hh (by rw [hst.waits]; simp) (by rw [hrun]) (by rw [hrun]; exact hst.calm.dead) (by rw [hrun]; exact hps.sound) (by omega)
  rw [hrun, e2] at this
  exact this
/-- What page.Open, wal.Open and pool.New leave on a new disk. -/
theorem PoolOk.fresh {w : World} {p f l d pages n logn : Nat} {frames : Int} {RL RD : Nat → Prop} {B : Nat} (hfile : FileAt w f d 0 pages 0) (hwal : WalIn w l d (LS.empty (8 * pages + 80) logn) (DS.new n) RL RD) (hp : Blk w p 69 #[.pointer (some ⟨f, 0, none⟩), .pointer (some ⟨l, 0, none⟩), .int .i64 frames, .map (some B), .slice none 0 0, .int .i64 0])
    (hB : FrMap w Tryz.prog 3 B 0 (fun _ => none)) (h1 : 1 ≤ pages) (h2 : pages ≤ 4096) (h16 : 16 ≤ logn) (hn : 8 * pages + 80 + logn ≤ n) (hlm : logn ≤ 32768) (hf1 : 1 ≤ frames) (hf2 : frames ≤ 64)
    (hfl : ¬ RL f ∧ ¬ RD f) (hpl : ¬ RL p ∧ ¬ RD p) (hBl : ¬ RL B ∧ ¬ RD B) :
    PoolOk (Uni (fun b => b = p ∨ b = B) (fun _ => False) RL RD f) w p f l d pages frames (fun no => ⟨no, 0, zeros 480⟩) (LS.empty (8 * pages + 80) logn) 0 0 (fun _ => False) := by
  have hln : (DS.new n).now.length = n := (DS.new_facts n).1
  refine ⟨_, _, RL, RD, 0, B, .slice none 0 0, [], fun _ => none, DS.new n, 0, [], LS.empty (8 * pages + 80) logn, ?_, LSame.refl _, fun b hb => hb, fun y hy => by simp at hy⟩
  have hpf : p ≠ f := Blk.ne_ hp hfile (by decide)
  have hBf : B ≠ f := fun e => hB.blk_ne hfile e.symm
  exact {
    pool := {
      blk := hp
      map := hB
      rnd := World.ownsRow_nil _ _ _ _
      frm := fun y hy => by simp at hy
      dis := by simp [ksOf]
      rp := .inl rfl
      rB := .inr rfl
      rA := fun g hg => by simp [Value.ownBlock] at hg
      ap := fun _ _ h => h
      lt := fun b hb => by
        rcases hb with rfl | rfl
        · exact hp.lt
        · exact hB.lt
      ltq := fun _ h => h.elim
      len := by simp; omega
      f0 := hf1
      f1 := hf2
      h0 := by omega
      h1 := by omega }
    und := {
      file := hfile
      log := hwal.l
      disk := hwal.d
      still := Still.new n
      ps := PSt.new n 0 pages (by omega)
      good := LogGood.new _ _ hlm
      fit1 := Nat.le_refl _
      fit2 := by rw [hln]; exact hn
      n16 := h16
      pg1 := h1
      pg2 := h2
      ap3 := fun b hb => ⟨hwal.apart b hb, fun e => hfl.1 (e ▸ hb)⟩
      ap4 := hfl.2 }
    ap := fun b hb => by
      rcases hb with (rfl | rfl) | hb
      · exact ⟨hpl.1, hpl.2, hpf⟩
      · exact ⟨hBl.1, hBl.2, hBf⟩
      · exact hb.elim
    views := ⟨fun y hy => by simp at hy, fun y hy => by simp at hy, fun no _ _ => rfl⟩
    tm := Nat.le_refl _
    M1 := by omega
    vok := fun no hno => ⟨⟨by show no < _; omega, by show 0 < _; omega, zeros_length 480⟩, rfl⟩ }

section
variable {U : Nat → Prop} {w : World} {p f l d pages : Nat} {frames : Int} {V : Nat → PgV} {L : LS} {M N : Nat} {Dt : Nat → Prop}
end
end Go.Proofs.YtccmmnacejdeoaaGreatDoor

/-
  made: a pool over a new disk, and what is noted of it.
-/
namespace Go.Proofs.YtccmmnacejdeoaaGreatDoor
set_option linter.unusedSimpArgs false
set_option linter.unusedVariables false
open Go.RowKit Go.Maps

def w5cells (d : Nat) (F L P : Value) : Array Value := #[.pointer (some ⟨d, 0, none⟩), F, L, P, .int .i64 0, .int .i64 0, .int .i64 0, .int .i64 0, .int .i64 0, .int .i64 0, .int .i64 0, .int .i64 0,
  .int .u64 0, .int .u64 0, .int .u64 0, .int .u64 0, .int .u64 0, .int .u64 0, .int .u64 0, .int .u64 0, .int .i64 0, .int .i64 0, .int .i64 0, .int .i64 0, .int .i64 0, .int .i64 0, .int .i64 0, .int .i64 0,
  .bool false, .bool false, .bool false, .bool false, .bool false, .bool false, .bool false, .bool false]
def World5 (w : World) (g d f l p : Nat) : Prop := Blk w g 36 (w5cells d (.pointer (some ⟨f, 0, none⟩)) (.pointer (some ⟨l, 0, none⟩)) (.pointer (some ⟨p, 0, none⟩)))
def V0 : Nat → PgV := fun no => ⟨no, 0, zeros 480⟩
set_option maxHeartbeats 3200000 in
set_option maxRecDepth 100000 in
theorem made5_any (frames : Int) (w : World) (h1 : 1 ≤ frames) (h2 : frames ≤ 64) :
    Calls Tryz.prog 6 #[.int .i64 frames] w fun e w' => ∃ g d f l p U, e = .returned (.pointer (some ⟨g, 0, none⟩)) ∧ World5 w' g d f l p ∧ PoolOk U w' p f l d 8 frames V0 (LS.empty 144 80) 0 0 (fun _ => False) ∧ (∀ b, U b → w.heap.size ≤ b) ∧ w.heap.size ≤ g ∧ ¬ U g ∧ Fr Nob w w' := by
  have HNe : Hid (∀ W, Calls Tryz.prog 20 #[.int .i64 8] W fun e w' => e = .returned (.int .i64 144) ∧ W = w') := fun W => Need_any 8 W (by omega) (by omega)
  have HNw : Hid (∀ W, Calls Tryz.prog 22 #[.int .i64 224] W fun e w' => ∃ p, e = .returned (.tuple #[.pointer (some ⟨p, 0, none⟩), .int .i64 0]) ∧ W.heap.size ≤ p ∧ DiskOk (fun b => W.heap.size ≤ b ∧ b < w'.heap.size) w' p (DS.new 224) ∧ Fr Nob W w') := fun W => New_good 224 W (by omega) (by omega)
  go_enter Tryz.func6, Tryz.ntmps6
  go_wp2_with fail
  refine (HNe.out _).mono ?_
  rintro e w1 ⟨rfl, rfl⟩
  go_wp2_with fail
  refine (HNw.out _).mono ?_
  rintro e w1 ⟨d, rfl, hd0, hd1, hf1⟩
  have HD1 := Lib.hid hd1
  have HF1 := Lib.hid hf1
  clear hd1 hf1 HNw
  go_wp2_with fail
  have hda : Fr Nob w1 (w1.alloc (.cells (w5cells d (.pointer none) (.pointer none) (.pointer none)) 36)) := (Fr.refl _ w1).alloc _
  have hba : Blk (w1.alloc (.cells (w5cells d (.pointer none) (.pointer none) (.pointer none)) 36)) w1.heap.size 36 (w5cells d (.pointer none) (.pointer none) (.pointer none)) := Blk.new _ _ _
  have hza : (w1.alloc (.cells (w5cells d (.pointer none) (.pointer none) (.pointer none)) 36)).heap.size = w1.heap.size + 1 := by simp
  have HOp := Lib.hid (Open_fresh (pages := 8) (HD1.out.new hda) (by omega) (by omega) (by omega))
  have HBa := Lib.hid hba
  have HFa := Lib.hid (HF1.out.trans hda)
  have HZa := Lib.hid hza
  obtain ⟨g, hg⟩ : ∃ g, w1.heap.size = g := ⟨_, rfl⟩
  obtain ⟨wa, hwa⟩ : ∃ W, w1.alloc (.cells (w5cells d (.pointer none) (.pointer none) (.pointer none)) 36) = W := ⟨_, rfl⟩
  rw [hwa] at HOp HBa HFa HZa
  rw [hg] at HBa HZa
  have HG := Lib.hid hg
  unfold w5cells at hwa
  rw [hwa]
  clear hda hba hza hwa
  refine HOp.out.mono ?_
  rintro e w2 ⟨f, R2, rfl, hf0, hf1, hfa2, hd2, hnf2, hsub2, hfr2⟩
  have HFile2 := Lib.hid hfa2
  have HNf2 := Lib.hid hnf2
  have HSub2 := Lib.hid hsub2
  have HFr2 := Lib.hid hfr2
  have HWal := Lib.hid (Open_new 144 80 hd2 (by omega) (by omega) (by omega))
  have HD2 := Lib.hid hd2
  clear hfa2 hnf2 hsub2 hfr2 hd2 HOp
  go_wp2_with fail
  refine (HNe.out _).mono ?_
  rintro e w3 ⟨rfl, rfl⟩
  go_wp2_with fail
  refine HWal.out.mono ?_
  rintro e w3 ⟨l, rfl, hl0, ⟨RL, RD, hwal, hRL, hRD⟩, hfr3⟩
  have HWi := Lib.hid hwal
  have HRL := Lib.hid hRL
  have HRD := Lib.hid hRD
  have HFr3 := Lib.hid hfr3
  have HPn := Lib.hid (PNew_good ⟨f, 0, none⟩ ⟨l, 0, none⟩ frames w3 h1 h2)
  clear hwal hRL hRD hfr3 HWal
  go_wp2_with fail
  refine HPn.out.mono ?_
  rintro e w4 ⟨rfl, hw4⟩
  have hz2 : wa.heap.size ≤ w2.heap.size := HFr2.out.size
  have hz3 : w2.heap.size ≤ w3.heap.size := HFr3.out.size
  have hwg := HZa.out
  have hgz := HG.out
  have h1z := HF1.out.size
  have hR2 : ∀ b, R2 b → (w.heap.size ≤ b ∧ b ≠ g) := fun b hb => by
    rcases HSub2.out b hb with e | e
    · omega
    · omega
  have hng2 : ¬ R2 g := fun e => (hR2 g e).2 rfl
  have hb2 := HBa.out.fr HFr2.out (fun e => by
    have e := (show Mut _ wa g from e).1
    omega)
  have hb3 := hb2.fr HFr3.out (fun e => hng2 e.1)
  have hf3 : Fr Nob w3 w4 := by rw [hw4]; exact ((Fr.refl _ w3).alloc _).alloc _
  have hb4 := hb3.fr hf3 (fun h => h)
  have HB4 := Lib.hid hb4
  have hfile4 : FileAt w4 f d 0 8 0 := (HFile2.out.fr HFr3.out (fun e => HNf2.out e.1)).fr hf3 (fun h => h)
  have HFile4 := Lib.hid hfile4
  have HW4 := Lib.hid hw4
  have HF34 := Lib.hid hf3
  have b1 := hb4.cell 1
  have b2 := hb4.cell 2
  have b3 := hb4.cell 3
  have q1 := hb4.frozen 1
  have q2 := hb4.frozen 2
  have q3 := hb4.frozen 3
  have sz := hb4.lt
  unfold w5cells at b1 b2 b3
  simp only [List.getElem?_toArray, List.getElem?_cons_zero, List.getElem?_cons_succ] at b1 b2 b3
  clear hb2 hb3 hb4 hf3 hfile4 HPn hw4
  go_wp2
  go_ret
  have hbE := ((HB4.out.set_ 1 (.pointer (some ⟨f, 0, none⟩))).set_ 2 (.pointer (some ⟨l, 0, none⟩))).set_ 3 (.pointer (some ⟨w3.heap.size + 1, 0, none⟩))
  have hfE : Fr (fun b => b = g) w4 (((w4.setCell ⟨g, 1, none⟩ (.pointer (some ⟨f, 0, none⟩))).setCell ⟨g, 2, none⟩ (.pointer (some ⟨l, 0, none⟩))).setCell ⟨g, 3, none⟩ (.pointer (some ⟨w3.heap.size + 1, 0, none⟩))) :=
    (((Fr.refl (fun b => b = g) w4).setCell (p := ⟨g, 1, none⟩) (.inr rfl) _).setCell (p := ⟨g, 2, none⟩) (.inr rfl) _).setCell (p := ⟨g, 3, none⟩) (.inr rfl) _
  have hz4 : w3.heap.size + 2 = w4.heap.size := by rw [HW4.out]; simp
  have hpb : Blk w4 (w3.heap.size + 1) 69 #[.pointer (some ⟨f, 0, none⟩), .pointer (some ⟨l, 0, none⟩), .int .i64 frames, .map (some w3.heap.size), .slice none 0 0, .int .i64 0] := by
    rw [HW4.out]
    have := Blk.new (w3.alloc (.map #[] 0)) 69 #[.pointer (some ⟨f, 0, none⟩), .pointer (some ⟨l, 0, none⟩), .int .i64 frames, .map (some w3.heap.size), .slice none 0 0, .int .i64 0]
    simpa using this
  have hmap : FrMap w4 Tryz.prog 3 w3.heap.size 0 (fun _ => none) := by
    rw [HW4.out]
    exact (FrMap.empty w3 Tryz.prog 3).fr ((Fr.refl Nob _).alloc _) (fun h => h)
  have hRLw : ∀ b, RL b → w2.heap.size ≤ b ∧ b < w3.heap.size := fun b hb => ⟨HRL.out b hb, HWi.out.l.lt hb⟩
  have hRDw : ∀ b, RD b → (R2 b ∨ w2.heap.size ≤ b) ∧ b < w3.heap.size := fun b hb => ⟨HRD.out b hb, HWi.out.d.lt hb⟩
  have hf2z : f < w2.heap.size := hf1
  have hwal4 : WalIn w4 l d (LS.empty (8 * 8 + 80) 80) (DS.new 224) RL RD := ⟨HWi.out.l.new HF34.out, HWi.out.d.new HF34.out, HWi.out.apart, HWi.out.fits⟩
  have hok := PoolOk.fresh (pages := 8) (n := 224) (logn := 80) (frames := frames) HFile4.out hwal4 hpb hmap (by omega) (by omega) (by omega) (by omega) (by omega) h1 h2 ⟨fun e => by have := hRLw f e; omega, fun e => by
    rcases (hRDw f e).1 with e | e
    · exact HNf2.out e
    · omega⟩ ⟨fun e => by have := hRLw _ e; omega, fun e => by have := (hRDw _ e).2; omega⟩ ⟨fun e => by have := hRLw _ e; omega, fun e => by have := (hRDw _ e).2; omega⟩
  have hU : ∀ b, Uni (fun b => b = w3.heap.size + 1 ∨ b = w3.heap.size) (fun _ => False) RL RD f b → w.heap.size ≤ b ∧ b ≠ g := fun b hb => by
    rcases hb with (hb | hb) | hb | hb | hb | hb
    · omega
    · omega
    · exact hb.elim
    · have := hRLw b hb; omega
    · rcases (hRDw b hb).1 with e | e
      · exact hR2 b e
      · omega
    · omega
  refine ⟨g, d, f, l, w3.heap.size + 1, _, rfl, hbE, hok.fr hfE (fun b hb e => (hU b hb).2 e), fun b hb => (hU b hb).1, by omega, fun e => (hU g e).2 rfl, ?_⟩
  refine ((((HFa.out.step HFr2.out (fun i hi e => ?_)).step HFr3.out (fun i hi e => ?_)).trans HF34.out).step hfE (fun i hi e => ?_))
  · have := (show Mut _ wa i from e).1; omega
  · have := hR2 i (show Mut R2 w2 i from e).1; omega
  · have e : i = g := e
    omega
end Go.Proofs.YtccmmnacejdeoaaGreatDoor

/-
  CRC is linear; images of which some sectors are old and some new are told by their CRC (plain; a check over all numbers by the kernel).
-/
namespace Go.Proofs.YtccmmnacejdeoaaGreatDoor
set_option linter.unusedSimpArgs false
set_option linter.unusedVariables false
open Go.RowKit

def TB : Nat := 0xbdbdf21ca00ae27886d3d2d49b64c2b0cb61b38cd6d6a3e8f00f9344edb883205005713c4db261586b6b51f476dc419026d930ac3b6e20c81db7106400000000
def tabN (k : Nat) : Nat := Nat.land (Nat.shiftRight TB (Nat.mul 32 k)) 4294967295
def hN (w : Nat) : Nat := Nat.xor (Nat.shiftRight w 4) (tabN (Nat.land w 15))
def stN (w b : Nat) : Nat := hN (hN (Nat.xor w b))
theorem tabN_lin : ∀ x, x < 16 → ∀ y, y < 16 → tabN (Nat.xor x y) = Nat.xor (tabN x) (tabN y) := by decide +kernel
theorem hN_lin (u v : Nat) : hN (u ^^^ v) = hN u ^^^ hN v := by
  have h1 : (u ^^^ v) >>> 4 = (u >>> 4) ^^^ (v >>> 4) := Nat.shiftRight_xor_distrib ..
  have h2 : (u ^^^ v) &&& 15 = (u &&& 15) ^^^ (v &&& 15) := Nat.and_xor_distrib_right ..
  have h3 : tabN ((u &&& 15) ^^^ (v &&& 15)) = tabN (u &&& 15) ^^^ tabN (v &&& 15) :=
    tabN_lin _ (Nat.lt_of_le_of_lt Nat.and_le_right (by omega)) _ (Nat.lt_of_le_of_lt Nat.and_le_right (by omega))
  show ((u ^^^ v) >>> 4) ^^^ tabN ((u ^^^ v) &&& 15) = ((u >>> 4) ^^^ tabN (u &&& 15)) ^^^ ((v >>> 4) ^^^ tabN (v &&& 15))
  rw [h1, h2, h3]
  generalize u >>> 4 = a; generalize v >>> 4 = b; generalize tabN (u &&& 15) = c; generalize tabN (v &&& 15) = d
  rw [Nat.xor_assoc, Nat.xor_assoc, ← Nat.xor_assoc b, Nat.xor_comm b c, Nat.xor_assoc c]
theorem stN_lin (u v a b : Nat) : stN (u ^^^ v) (a ^^^ b) = stN u a ^^^ stN v b := by
  have e : (u ^^^ v) ^^^ (a ^^^ b) = (u ^^^ a) ^^^ (v ^^^ b) := by
    rw [Nat.xor_assoc, Nat.xor_assoc, ← Nat.xor_assoc v, Nat.xor_comm v a, Nat.xor_assoc a]
  show hN (hN ((u ^^^ v) ^^^ (a ^^^ b))) = hN (hN (u ^^^ a)) ^^^ hN (hN (v ^^^ b))
  rw [e, hN_lin, hN_lin]
def foldN (s : Nat) (l : List Nat) : Nat := l.foldl stN s
def xorL : List Nat → List Nat → List Nat := List.zipWith (· ^^^ ·)
theorem foldN_lin : ∀ (a b : List Nat) (u v : Nat), a.length = b.length → foldN (u ^^^ v) (xorL a b) = foldN u a ^^^ foldN v b
  | [], [], _, _, _ => rfl
  | x :: a, y :: b, u, v, h => by
    show foldN (stN (u ^^^ v) (x ^^^ y)) (xorL a b) = foldN (stN u x) a ^^^ foldN (stN v y) b
    rw [stN_lin]
    exact foldN_lin a b _ _ (by simpa using h)
theorem foldN_append (s : Nat) (a b : List Nat) : foldN s (a ++ b) = foldN (foldN s a) b := List.foldl_append ..

/-! the model's words -/
theorem xor_u32 (a b : Nat) (ha : a < 4294967296) (hb : b < 4294967296) : bits .xor .u32 (a : Int) (b : Int) = ((a ^^^ b : Nat) : Int) := by
  show IntKind.u32.wrap ((BitVec.ofInt 32 a ^^^ BitVec.ofInt 32 b).toNat : Nat) = _
  have e1 : (BitVec.ofInt 32 (a : Int)).toNat = a := by rw [BitVec.toNat_ofInt]; omega
  have e2 : (BitVec.ofInt 32 (b : Int)).toNat = b := by rw [BitVec.toNat_ofInt]; omega
  rw [BitVec.toNat_xor, e1, e2, IntKind.wrap_u32]
  have : a ^^^ b < 2 ^ 32 := Nat.xor_lt_two_pow (by omega) (by omega)
  omega
theorem tabN_eq : ∀ k, k < 16 → tabI k = (tabN k : Int) := by decide +kernel
theorem tabN_lt (k : Nat) : tabN k < 4294967296 := Nat.lt_of_le_of_lt (Nat.and_le_right : _ &&& 4294967295 ≤ 4294967295) (by omega)
theorem hN_lt (w : Nat) (h : w < 4294967296) : hN w < 4294967296 := by
  have h1 : w >>> 4 < 2 ^ 32 := by rw [Nat.shiftRight_eq_div_pow]; omega
  have h2 : tabN (w &&& 15) < 2 ^ 32 := tabN_lt _
  have : (w >>> 4) ^^^ tabN (w &&& 15) < 2 ^ 32 := Nat.xor_lt_two_pow h1 h2
  exact this
theorem chalf_eq (w : Nat) (h : w < 4294967296) : chalf (w : Int) = (hN w : Int) := by
  unfold chalf
  have e1 : (w : Int) / 16 = ((w / 16 : Nat) : Int) := by omega
  have e2 : ((w : Int) % 16).toNat = w % 16 := by omega
  rw [e1, e2, tabN_eq _ (by omega), xor_u32 _ _ (by omega) (tabN_lt _)]
  show ((w / 16 ^^^ tabN (w % 16) : Nat) : Int) = ((w >>> 4 ^^^ tabN (w &&& 15) : Nat) : Int)
  rw [Nat.shiftRight_eq_div_pow, show (15 : Nat) = 2 ^ 4 - 1 from rfl, Nat.and_two_pow_sub_one_eq_mod]
theorem cstep_eq (w : Nat) (b : UInt8) (h : w < 4294967296) : cstep (w : Int) b = (stN w b.toNat : Int) := by
  unfold cstep
  have hb := UInt8.toNat_lt b
  have hx : w ^^^ b.toNat < 2 ^ 32 := Nat.xor_lt_two_pow (by omega) (by omega)
  rw [xor_u32 _ _ h (by omega), chalf_eq _ (by omega), chalf_eq _ (hN_lt _ (by omega))]; rfl
def nats (l : List UInt8) : List Nat := l.map UInt8.toNat
theorem stN_lt (w b : Nat) (h : w < 4294967296) (hb : b < 256) : stN w b < 4294967296 := by
  have hx : w ^^^ b < 2 ^ 32 := Nat.xor_lt_two_pow (by omega) (by omega)
  exact hN_lt _ (hN_lt _ (by have : Nat.xor w b = w ^^^ b := rfl; omega))
theorem fold_eq : ∀ (l : List UInt8) (w : Nat), w < 4294967296 → l.foldl cstep (w : Int) = (foldN w (nats l) : Int)
  | [], _, _ => rfl
  | b :: l, w, h => by
    show l.foldl cstep (cstep (w : Int) b) = (foldN (stN w b.toNat) (nats l) : Int)
    rw [cstep_eq w b h]
    exact fold_eq l _ (stN_lt w _ h (UInt8.toNat_lt b))
theorem foldN_lt : ∀ (l : List UInt8) (w : Nat), w < 4294967296 → foldN w (nats l) < 4294967296
  | [], _, h => h
  | b :: l, w, h => foldN_lt l _ (stN_lt w _ h (UInt8.toNat_lt b))
theorem crcN_inj {a b : List UInt8} (h : crcN a = crcN b) : foldN 4294967295 (nats a) = foldN 4294967295 (nats b) := by
  have e : ∀ l : List UInt8, crcN l = 4294967295 ^^^ foldN 4294967295 (nats l) := by
    intro l
    have h1 := crc_eq l
    have h2 : crcI l = (foldN 4294967295 (nats l) : Int) := fold_eq l 4294967295 (by omega)
    rw [h2, show IntKind.u32.max = ((4294967295 : Nat) : Int) from rfl, xor_u32 _ _ (by omega) (foldN_lt l _ (by omega))] at h1
    omega
  rw [e, e] at h
  have := congrArg (4294967295 ^^^ ·) h
  simpa [← Nat.xor_assoc] using this
/-- Rows of one length with one CRC. -/
theorem crc_diff {a b : List UInt8} (hl : a.length = b.length) (h : crcN a = crcN b) : foldN 0 (xorL (nats a) (nats b)) = 0 := by
  have := foldN_lin (nats a) (nats b) 4294967295 4294967295 (by unfold nats; rw [List.length_map, List.length_map, hl])
  rw [Nat.xor_self, crcN_inj h, Nat.xor_self] at this
  exact this

/-! blocks -/
def zrs (n : Nat) : List Nat := List.replicate n 0
theorem xorL_zero : ∀ (l : List Nat), xorL (zrs l.length) l = l
  | [] => rfl
  | x :: l => by
    show (0 ^^^ x) :: xorL (zrs l.length) l = _
    rw [Nat.zero_xor, xorL_zero l]
theorem foldN_zrs : ∀ n, foldN 0 (zrs n) = 0
  | 0 => rfl
  | n + 1 => by
    show foldN (stN 0 0) (zrs n) = 0
    rw [show stN 0 0 = 0 from by decide +kernel]
    exact foldN_zrs n
theorem foldN_split (s : Nat) (l : List Nat) : foldN s l = foldN s (zrs l.length) ^^^ foldN 0 l := by
  have := foldN_lin (zrs l.length) l s 0 (by simp [zrs])
  rw [Nat.xor_zero, xorL_zero] at this
  exact this
/-- Blocks one behind the other: what the CRC's line comes to, block by block. -/
def blocks : List (List Nat) → Nat
  | [] => 0
  | b :: r => foldN (foldN 0 b) (zrs r.flatten.length) ^^^ blocks r
theorem foldN_blocks : ∀ (bs : List (List Nat)), foldN 0 bs.flatten = blocks bs
  | [] => rfl
  | b :: r => by
    rw [List.flatten_cons, foldN_append, foldN_split, foldN_blocks r]; rfl

/-! the check -/
def force {α : Type} (w : Nat) (k : Nat → α) : α := Nat.rec (motive := fun _ => α) (k 0) (fun n _ => k (Nat.succ n)) w
theorem force_eq {α : Type} (w : Nat) (k : Nat → α) : force w k = k w := by cases w <;> rfl
def dN (n m i : Nat) : Nat := Nat.xor (Nat.mod (Nat.mul n (Nat.succ (Nat.mod i 7))) 256) (Nat.mod (Nat.mul m (Nat.succ (Nat.mod i 7))) 256)
noncomputable def blk (n m : Nat) (f : Nat) : Nat → Nat → Nat := Nat.rec (motive := fun _ => Nat → Nat → Nat) (fun _ w => w) (fun _ ih i w => force (stN w (dN n m i)) (fun w' => ih (Nat.succ i) w')) f
noncomputable def zr (f : Nat) : Nat → Nat := Nat.rec (motive := fun _ => Nat → Nat) (fun w => w) (fun _ ih w => force (stN w 0) ih) f
theorem zr_eq : ∀ f w, zr f w = foldN w (zrs f)
  | 0, _ => rfl
  | f + 1, w => by
    show force (stN w 0) (zr f) = foldN (stN w 0) (zrs f)
    rw [force_eq, zr_eq f]
theorem blk_eq (n m : Nat) : ∀ f i w, blk n m f i w = foldN w ((List.range f).map fun j => dN n m (i + j))
  | 0, _, _ => rfl
  | f + 1, i, w => by
    show force (stN w (dN n m i)) (fun w' => blk n m f (i + 1) w') = _
    rw [force_eq, blk_eq n m f, List.range_succ_eq_map, List.map_cons, List.map_map]
    show _ = foldN (stN w (dN n m (i + 0))) _
    congr 1
    refine List.map_congr_left (fun j _ => ?_)
    show dN n m (i + 1 + j) = dN n m (i + (j + 1))
    congr 1; omega
noncomputable def LN (n m j : Nat) : Nat := zr (Nat.mul 64 (Nat.sub 7 j)) (blk n m 64 (Nat.sub (Nat.mul 64 j) 32) 0)
/-- No nonempty choice of the numbers xors to nought. -/
def indep : List Nat → Bool → Nat → Bool
  | [], b, x => if b then !(Nat.beq x 0) else true
  | a :: l, b, x => indep l b x && force (Nat.xor a x) (fun y => indep l true y)
def xors : List (Bool × Nat) → Nat
  | [] => 0
  | (b, a) :: l => (if b then a else 0) ^^^ xors l
theorem indep_spec : ∀ (l : List (Bool × Nat)) (b : Bool) (x : Nat), indep (l.map (·.2)) b x = true → x ^^^ xors l = 0 → b = false ∧ ∀ y ∈ l, y.1 = false
  | [], b, x, h, hx => by
    refine ⟨?_, fun y hy => by simp at hy⟩
    cases b with
    | false => rfl
    | true =>
      have h' : (!(Nat.beq x 0)) = true := h
      have hx' : x = 0 := by simpa [xors] using hx
      subst hx'
      cases h'
  | (c, a) :: l, b, x, h, hx => by
    have h' : (indep (l.map (·.2)) b x && force (Nat.xor a x) (fun y => indep (l.map (·.2)) true y)) = true := h
    rw [Bool.and_eq_true, force_eq] at h'
    cases c with
    | false =>
      have hx' : x ^^^ xors l = 0 := by
        have : x ^^^ (0 ^^^ xors l) = 0 := hx
        rwa [Nat.zero_xor] at this
      obtain ⟨h1, h2⟩ := indep_spec l b x h'.1 hx'
      refine ⟨h1, fun y hy => ?_⟩
      rcases List.mem_cons.1 hy with rfl | hy
      · rfl
      · exact h2 y hy
    | true =>
      have hx' : (a ^^^ x) ^^^ xors l = 0 := by
        have : x ^^^ (a ^^^ xors l) = 0 := hx
        rw [Nat.xor_comm a x, Nat.xor_assoc]; exact this
      obtain ⟨h1, _⟩ := indep_spec l true (a ^^^ x) h'.2 hx'
      cases h1
end Go.Proofs.YtccmmnacejdeoaaGreatDoor
