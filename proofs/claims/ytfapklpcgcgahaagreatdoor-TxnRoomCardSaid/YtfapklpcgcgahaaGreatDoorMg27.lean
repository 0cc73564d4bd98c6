/-
  PoolOk, PoolMade, WalRoom, TxnUnd, Pk0, TxnPlain, in one text.
-/
import Derived.Test.YtfapklpcgcgahaaGreatDoorMg26
import Derived.Test.YtfapklpcgcgahaaGreatDoorMg11
import Derived.Test.YtfapklpcgcgahaaGreatDoorMg20
import Derived.Test.YtfapklpcgcgahaaGreatDoorMg18
import Derived.Test.YtfapklpcgcgahaaGreatDoorMg10
import Derived.Test.YtfapklpcgcgahaaGreatDoorMg01
/-
  A pool as its callers see it (PoolOk): the pages, whatever is held where.
-/
namespace Go.Proofs.YtfapklpcgcgahaaGreatDoor
set_option linter.unusedSimpArgs false
set_option linter.unusedVariables false
open Go.RowKit Go.Maps

/-- A pool over a file of so many pages and a log: it has the pages V; all that it is made of lies in U; what is not in the file as it is lies in Dt. -/
def PoolOk (U : Nat → Prop) (w : World) (p f l d pages : Nat) (frames : Int) (V : Nat → PgV) (L : LS) (M N : Nat) (Dt : Nat → Prop) : Prop :=
  ∃ RP RQ RL RD hand B rv fs cur S T lot L', PIn w p f l d pages frames V L' M N RP RQ RL RD hand B rv fs cur S T lot ∧ LSame L L' ∧ (∀ b, Uni RP RQ RL RD f b → U b) ∧ ∀ y ∈ fs, y.2.dirty = true → Dt y.2.x.no
section
variable {U F : Nat → Prop} {w w' : World} {p f l d pages : Nat} {frames : Int} {V : Nat → PgV} {L : LS} {M N : Nat} {Dt : Nat → Prop}
theorem PoolOk.fr (h : PoolOk U w p f l d pages frames V L M N Dt) (hf : Fr F w w') (hF : ∀ b, U b → ¬ F b) : PoolOk U w' p f l d pages frames V L M N Dt := by
  obtain ⟨RP, RQ, RL, RD, hand, B, rv, fs, cur, S, T, lot, L', h1, h2, h3, h4⟩ := h
  exact ⟨RP, RQ, RL, RD, hand, B, rv, fs, cur, S, T, lot, L', h1.fr hf (fun b hb => hF b (h3 b hb)), h2, h3, h4⟩
theorem PoolOk.new (h : PoolOk U w p f l d pages frames V L M N Dt) (hf : Fr Nob w w') : PoolOk U w' p f l d pages frames V L M N Dt := h.fr hf (fun _ _ h => h)
theorem PoolOk.vok (h : PoolOk U w p f l d pages frames V L M N Dt) (no : Nat) (hno : no < pages) : (V no).Ok ∧ (V no).no = no := by
  obtain ⟨RP, RQ, RL, RD, hand, B, rv, fs, cur, S, T, lot, L', h1, h2, h3, h4⟩ := h
  exact h1.vok no hno
theorem PoolOk.pg (h : PoolOk U w p f l d pages frames V L M N Dt) : 1 ≤ pages ∧ pages ≤ 4096 := by
  obtain ⟨RP, RQ, RL, RD, hand, B, rv, fs, cur, S, T, lot, L', h1, h2, h3, h4⟩ := h
  exact ⟨h1.und.pg1, h1.und.pg2⟩
theorem PoolOk.more (h : PoolOk U w p f l d pages frames V L M N Dt) {K : Nat} (hK : M ≤ K) (h1 : K ≤ 1000000000000000000) : PoolOk U w p f l d pages frames V L K N Dt := by
  obtain ⟨RP, RQ, RL, RD, hand, B, rv, fs, cur, S, T, lot, L', h2, h3⟩ := h
  exact ⟨RP, RQ, RL, RD, hand, B, rv, fs, cur, S, T, lot, L', { h2 with tm := Nat.le_trans h2.tm hK, M1 := h1 }, h3⟩
theorem PoolOk.trim (h : PoolOk U w p f l d pages frames V L M N Dt) : PoolOk (fun b => U b ∧ b < w.heap.size) w p f l d pages frames V L M N Dt := by
  obtain ⟨RP, RQ, RL, RD, hand, B, rv, fs, cur, S, T, lot, L', h1, h2, h3, h4⟩ := h
  exact ⟨RP, RQ, RL, RD, hand, B, rv, fs, cur, S, T, lot, L', h1, h2, fun b hb => ⟨h3 b hb, h1.lt hb⟩, h4⟩
theorem PoolOk.dmono (h : PoolOk U w p f l d pages frames V L M N Dt) {Dt' : Nat → Prop} (hd : ∀ k, Dt k → Dt' k) : PoolOk U w p f l d pages frames V L M N Dt' := by
  obtain ⟨RP, RQ, RL, RD, hand, B, rv, fs, cur, S, T, lot, L', h1, h2, h3, h4⟩ := h
  exact ⟨RP, RQ, RL, RD, hand, B, rv, fs, cur, S, T, lot, L', h1, h2, h3, fun y hy e => hd _ (h4 y hy e)⟩
/-- Get. -/
theorem PoolOk.get (h : PoolOk U w p f l d pages frames V L M N Dt) (no : Nat) (hno : no < pages) (hM : M + 1 ≤ 1000000000000000000) :
    Calls Tryz.prog 42 #[.pointer (some ⟨p, 0, none⟩), .int .i64 no] w fun e w' => ∃ g, e = .returned (.tuple #[.agg #[.int .i64 no, .int .u64 (V no).lsn, .slice (some ⟨g, 0, none⟩) 480 480], .int .i64 0]) ∧ CopyIn w' g (V no).d ∧ w.heap.size ≤ g ∧ ∃ U', PoolOk U' w' p f l d pages frames V L (M + 1) N Dt ∧ ¬ U' g ∧ (∀ b, U' b → U b ∨ w.heap.size ≤ b) ∧ Fr U w w' := by
  obtain ⟨RP, RQ, RL, RD, hand, B, rv, fs, cur, S, T, lot, L', h1, h2, h3, h4⟩ := h
  obtain ⟨hvo, hvn⟩ := h1.vok no hno
  by_cases hh : ∃ y ∈ fs, y.2.x.no = no
  · obtain ⟨y, hy, hyn⟩ := hh
    obtain ⟨i, hi⟩ := List.mem_iff_getElem?.1 hy
    obtain ⟨b, m⟩ := y
    have hx : m.x = V no := by
      have := h1.views.held _ hy
      dsimp only at this hyn
      rw [hyn] at this
      exact this
    have hmn : m.x.no = no := hyn
    have hg := Get_held h1 hi
    rw [hmn, hx] at hg
    refine hg.mono ?_
    rintro e w' ⟨g, rfl, hc, hgg, hin, hf⟩
    refine ⟨g, rfl, hc, hgg, Uni RP RQ RL RD f, ⟨RP, RQ, RL, RD, hand, B, rv, _, cur, S, T, lot, L', { hin with tm := by have := hin.tm; omega, M1 := hM }, h2, fun b hb => hb, fun y hy hd => (List.mem_or_eq_of_mem_set hy).elim (fun hy => h4 y hy hd) (fun e => by rw [e] at hd ⊢; have h5 := h4 _ (List.mem_of_getElem? hi) hd; dsimp only at h5 ⊢; rw [hx] at h5; exact h5)⟩, fun e => ?_, fun b hb => .inl (h3 b hb), hf.mono (fun b _ hb => h3 b (.inl hb))⟩
    have := h1.lt e; omega
  · have hn : ∀ y ∈ fs, y.2.x.no ≠ no := fun y hy e => hh ⟨y, hy, e⟩
    have hg := Get_new h1 (V no) (by rw [hvn]; exact hno) (fun y hy => by rw [hvn]; exact hn y hy) (by rw [hvn]) hM
    rw [hvn] at hg
    refine hg.mono ?_
    rintro e w' ⟨g, rfl, hc, hgg, L2, S2, T2, lot2, RP2, RQ2, RD2, hand2, rv2, fs2, cur2, hin, hs, hdd, hug, hsub, hf⟩
    exact ⟨g, rfl, hc, hgg, Uni RP2 RQ2 RL RD2 f, ⟨RP2, RQ2, RL, RD2, hand2, B, rv2, fs2, cur2, S2, T2, lot2, L2, hin, h2.trans hs, fun b hb => hb, fun y hy hd => by
      obtain ⟨z, hz, e1, e2⟩ := hdd y hy hd
      rw [← e1]; exact h4 z hz e2⟩, hug, fun b hb => (hsub b hb).imp (h3 b) id, hf.mono (fun b _ hb => h3 b hb)⟩
/-- Put of a page. -/
theorem PoolOk.put (h : PoolOk U w p f l d pages frames V L M N Dt) (x : PgV) (kb ko c : Nat) (hb : Bsl w (some ⟨kb, ko, none⟩) c x.d) (hok : x.Ok) (hno : x.no < pages) (hls : x.lsn < L.next) (hkb : ¬ U kb) (hM : M + 1 ≤ 1000000000000000000) :
    Calls Tryz.prog 81 #[.pointer (some ⟨p, 0, none⟩), .agg #[.int .i64 x.no, .int .u64 x.lsn, .slice (some ⟨kb, ko, none⟩) 480 c]] w fun e w' => e = .returned (.int .i64 0) ∧ ∃ U', PoolOk U' w' p f l d pages frames (fun no => if no = x.no then x else V no) L (M + 1) N (fun k => Dt k ∨ k = x.no) ∧ (∀ b, U' b → U b ∨ w.heap.size ≤ b) ∧ Fr U w w' := by
  obtain ⟨RP, RQ, RL, RD, hand, B, rv, fs, cur, S, T, lot, L', h1, h2, h3, h4⟩ := h
  by_cases hh : ∃ y ∈ fs, y.2.x.no = x.no
  · obtain ⟨y, hy, hyn⟩ := hh
    obtain ⟨i, hi⟩ := List.mem_iff_getElem?.1 hy
    obtain ⟨b, m⟩ := y
    refine (Put_held h1 x kb ko c hb hok hno (by rw [h2.next]; exact hls) hi hyn).mono ?_
    rintro e w' ⟨rfl, gn, hg1, hg2, hin, hf⟩
    refine ⟨rfl, Uni RP (fun k => RQ k ∨ k = gn) RL RD f, ⟨RP, _, RL, RD, hand, B, rv, _, cur, S, T, lot, L', { hin with tm := by have := hin.tm; omega, M1 := hM }, h2, fun b hb => hb, fun y hy hd => (List.mem_or_eq_of_mem_set hy).elim (fun hy => .inl (h4 y hy hd)) (fun e => by rw [e]; exact .inr rfl)⟩, fun b hb => ?_, hf.mono (fun b _ hb => h3 b (.inl hb))⟩
    rcases hb with hb | (hb | hb) | hb | hb | hb
    · exact .inl (h3 b (.inl hb))
    · exact .inl (h3 b (.inr (.inl hb)))
    · exact .inr (by omega)
    · exact .inl (h3 b (.inr (.inr (.inl hb))))
    · exact .inl (h3 b (.inr (.inr (.inr (.inl hb)))))
    · exact .inl (h3 b (.inr (.inr (.inr (.inr hb)))))
  · have hn : ∀ y ∈ fs, y.2.x.no ≠ x.no := fun y hy e => hh ⟨y, hy, e⟩
    refine (Put_new h1 x kb ko c hb hok hno (by rw [h2.next]; exact hls) hn hM (fun e => hkb (h3 kb e))).mono ?_
    rintro e w' ⟨rfl, L2, S2, T2, lot2, RP2, RQ2, RD2, hand2, rv2, fs2, cur2, hin, hs, hdd, hsub, hf⟩
    exact ⟨rfl, Uni RP2 RQ2 RL RD2 f, ⟨RP2, RQ2, RL, RD2, hand2, B, rv2, fs2, cur2, S2, T2, lot2, L2, hin, h2.trans hs, fun b hb => hb, fun y hy hd => by
      rcases hdd y hy hd with e | ⟨z, hz, e1, e2⟩
      · exact .inr e
      · rw [← e1]; exact .inl (h4 z hz e2)⟩, fun b hb => (hsub b hb).imp (h3 b) id, hf.mono (fun b _ hb => h3 b hb)⟩
/-- Evict. -/
theorem PoolOk.evict (h : PoolOk U w p f l d pages frames V L M N Dt) (no : Nat) (hno : no < pages) (hM : M + 1 ≤ 1000000000000000000) :
    Calls Tryz.prog 48 #[.pointer (some ⟨p, 0, none⟩), .int .i64 no] w fun e w' => e = .returned (.int .i64 0) ∧ ∃ U', PoolOk U' w' p f l d pages frames V L (M + 1) N (fun k => Dt k ∧ k ≠ no) ∧ (∀ b, U' b → U b ∨ w.heap.size ≤ b) ∧ Fr U w w' := by
  obtain ⟨RP, RQ, RL, RD, hand, B, rv, fs, cur, S, T, lot, L', h1, h2, h3, h4⟩ := h
  by_cases hh : ∃ y ∈ fs, y.2.x.no = no
  · obtain ⟨y, hy, hyn⟩ := hh
    obtain ⟨i, hi⟩ := List.mem_iff_getElem?.1 hy
    obtain ⟨b, m⟩ := y
    have hmn : m.x.no = no := hyn
    have hg := Evict_held h1 hi hM
    rw [hmn] at hg
    refine hg.mono ?_
    rintro e w' ⟨rfl, L2, S2, T2, lot2, RD2, rv2, fs2, cur2, hin, hs, _, hdd, hsub, hf⟩
    refine ⟨rfl, Uni RP RQ RL RD2 f, ⟨RP, RQ, RL, RD2, hand, B, rv2, fs2, cur2, S2, T2, lot2, L2, hin, h2.trans hs, fun b hb => hb, fun y hy hd => by
      obtain ⟨e0, z, hz, e1, e2⟩ := hdd y hy
      exact ⟨by rw [← e1]; exact h4 z hz (e2 hd), e0⟩⟩, fun b hb => ?_, hf.mono (fun b _ hb => h3 b hb)⟩
    rcases hb with hb | hb | hb | hb | hb
    · exact .inl (h3 b (.inl hb))
    · exact .inl (h3 b (.inr (.inl hb)))
    · exact .inl (h3 b (.inr (.inr (.inl hb))))
    · rcases hsub b hb with e | e
      · exact .inl (h3 b (.inr (.inr (.inr (.inl e)))))
      · exact .inr e
    · exact .inl (h3 b (.inr (.inr (.inr (.inr hb)))))
  · have hn : ∀ y ∈ fs, y.2.x.no ≠ no := fun y hy e => hh ⟨y, hy, e⟩
    refine (Evict_not h1 no hno hn).mono ?_
    rintro e w' ⟨rfl, rfl⟩
    exact ⟨rfl, U, ⟨RP, RQ, RL, RD, hand, B, rv, fs, cur, S, T, lot, L', { h1 with tm := by have := h1.tm; omega, M1 := hM }, h2, h3, fun y hy hd => ⟨h4 y hy hd, hn y hy⟩⟩, fun b hb => .inl hb, Fr.refl _ _⟩
/-- A record is put behind the others. -/
theorem PoolOk.append (h : PoolOk U w p f l d pages frames V L M N Dt) (a : Addr) (c : Nat) (b : List UInt8) (hb : BytesIn w (some a) b) (ha : a.block < w.heap.size) (hlen : b.length ≤ 2000) (hr : b.length + 16 ≤ L.room) (hN : N + 1 ≤ 400000) :
    Calls Tryz.prog 46 #[.pointer (some ⟨l, 0, none⟩), .slice (some a) b.length c] w fun e w' => e = .returned (.tuple #[.int .u64 L.next, .int .i64 0]) ∧ ∃ U', PoolOk U' w' p f l d pages frames V (L.add b) M (N + 1) Dt ∧ (∀ b, U' b → U b ∨ w.heap.size ≤ b) ∧ Fr U w w' := by
  obtain ⟨RP, RQ, RL, RD, hand, B, rv, fs, cur, S, T, lot, L', h1, h2, h3, h4⟩ := h
  have hap := h1.und.append a c b hb ha hlen (by rw [h2.room]; exact hr) hN
  rw [h2.next] at hap
  refine hap.mono ?_
  rintro e w' ⟨rfl, RL2, hu, hsub, hf⟩
  have hRU : ∀ x, RL2 x → RL x ∨ w.heap.size ≤ x := hsub
  have hfU : ∀ x, RL x → U x := fun x hx => h3 x (.inr (.inr (.inl hx)))
  have hsz := hf.size
  have hap' : ∀ x, RP x ∨ RQ x → ¬ RL2 x ∧ ¬ RD x ∧ x ≠ f := fun x hx => ⟨fun e => by
    rcases hsub x e with e | e
    · exact (h1.ap x hx).1 e
    · rcases hx with hx | hx
      · have := h1.pool.lt x hx; omega
      · have := h1.pool.ltq x hx; omega, (h1.ap x hx).2⟩
  refine ⟨rfl, Uni RP RQ RL2 RD f, ⟨RP, RQ, RL2, RD, hand, B, rv, fs, cur, S, T, lot, L'.add b, { h1 with
    pool := h1.pool.fr hf (fun x hx e => (h1.ap x (.inl hx)).1 e) (fun x hx e => (h1.ap x (.inr hx)).1 e)
    und := hu
    ap := hap' }, ?_, fun b hb => hb, h4⟩, fun x hx => ?_, hf.mono (fun x _ hx => hfU x hx)⟩
  · exact ⟨h2.start, h2.n, h2.first, by show L'.next + 1 = L.next + 1; rw [h2.next], by show L'.l ++ [(b, L'.fin)] = L.l ++ [(b, L.fin)]; rw [h2.l, h2.fin], by show L'.fin + _ = L.fin + _; rw [h2.fin], by show L'.room - _ = L.room - _; rw [h2.room], h2.life, h2.turn⟩
  · rcases hx with hx | hx | hx | hx | hx
    · exact .inl (h3 x (.inl hx))
    · exact .inl (h3 x (.inr (.inl hx)))
    · rcases hsub x hx with e | e
      · exact .inl (hfU x e)
      · exact .inr e
    · exact .inl (h3 x (.inr (.inr (.inr (.inl hx)))))
    · exact .inl (h3 x (.inr (.inr (.inr (.inr hx)))))
end
end Go.Proofs.YtfapklpcgcgahaaGreatDoor

/-
  A pool over a new disk.
-/
namespace Go.Proofs.YtfapklpcgcgahaaGreatDoor
set_option linter.unusedSimpArgs false
set_option linter.unusedVariables false
open Go.RowKit Go.Maps

theorem Open_fresh {R : Nat → Prop} {w : World} {d n pages : Nat} (hd : DiskOk R w d (DS.new n)) (h1 : 1 ≤ pages) (h2 : pages ≤ 4096) (hat : 8 * pages + 80 ≤ n) :
    Calls Tryz.prog 32 #[.pointer (some ⟨d, 0, none⟩), .int .i64 0, .int .i64 pages] w fun e w' => ∃ p R', e = .returned (.tuple #[.pointer (some ⟨p, 0, none⟩), .int .i64 0]) ∧ w.heap.size ≤ p ∧ p < w'.heap.size ∧ FileAt w' p d 0 pages 0 ∧ DiskOk R' w' d (DS.new n) ∧ ¬ R' p ∧ (∀ b, R' b → R b ∨ w.heap.size ≤ b) ∧ FrD R w w' := by
  have hst := Still.new n
  have hps : PSt (DS.new n).now 0 pages 0 [] (fun _ => none) := PSt.new n 0 pages (by omega)
  obtain ⟨hb, hh, e1, e2⟩ := hps.left
  have hln : (DS.new n).now.length = n := (DS.new_facts n).1
  have hrun : openRun (DS.new n) 0 pages hb = (DS.new n, 0) := by
    unfold openRun
    rw [if_pos (by rw [e1])]
  have := Open_run (at0 := 0) (pages := pages) hd hst.calm.dead h1 h2 (by rw [hln]; omega) hh (by rw [hst.waits]; simp) (by rw [hrun]) (by rw [hrun]; exact hst.calm.dead) (by rw [hrun]; exact hps.sound) (by omega)
  rw [hrun, e2] at this
  exact this
/-- What page.Open, wal.Open and pool.New leave on a new disk. -/
theorem PoolOk.fresh {w : World} {p f l d pages n logn : Nat} {frames : Int} {RL RD : Nat → Prop} {B : Nat} (hfile : FileAt w f d 0 pages 0) (hwal : WalIn w l d (LS.empty (8 * pages + 80) logn) (DS.new n) RL RD) (hp : Blk w p 115 #[.pointer (some ⟨f, 0, none⟩), .pointer (some ⟨l, 0, none⟩), .int .i64 frames, .map (some B), .slice none 0 0, .int .i64 0])
    (hB : FrMap w Tryz.prog 3 B 0 (fun _ => none)) (h1 : 1 ≤ pages) (h2 : pages ≤ 4096) (h16 : 16 ≤ logn) (hn : 8 * pages + 80 + logn ≤ n) (hlm : logn ≤ 32768) (hf1 : 1 ≤ frames) (hf2 : frames ≤ 64)
    (hfl : ¬ RL f ∧ ¬ RD f) (hpl : ¬ RL p ∧ ¬ RD p) (hBl : ¬ RL B ∧ ¬ RD B) :
    PoolOk (Uni (fun b => b = p ∨ b = B) (fun _ => False) RL RD f) w p f l d pages frames (fun no => ⟨no, 0, zeros 480⟩) (LS.empty (8 * pages + 80) logn) 0 0 (fun _ => False) := by
  have hln : (DS.new n).now.length = n := (DS.new_facts n).1
  refine ⟨_, _, RL, RD, 0, B, .slice none 0 0, [], fun _ => none, DS.new n, 0, [], LS.empty (8 * pages + 80) logn, ?_, LSame.refl _, fun b hb => hb, fun y hy => by simp at hy⟩
  have hpf : p ≠ f := Blk.ne_ hp hfile (by decide)
  have hBf : B ≠ f := fun e => hB.blk_ne hfile e.symm
  exact {
    pool := {
      blk := hp
      map := hB
      rnd := World.ownsRow_nil _ _ _ _
      frm := fun y hy => by simp at hy
      dis := by simp [ksOf]
      rp := .inl rfl
      rB := .inr rfl
      rA := fun g hg => by simp [Value.ownBlock] at hg
      ap := fun _ _ h => h
      lt := fun b hb => by
        rcases hb with rfl | rfl
        · exact hp.lt
        · exact hB.lt
      ltq := fun _ h => h.elim
      len := by simp; omega
      f0 := hf1
      f1 := hf2
      h0 := by omega
      h1 := by omega }
    und := {
      file := hfile
      log := hwal.l
      disk := hwal.d
      still := Still.new n
      ps := PSt.new n 0 pages (by omega)
      good := LogGood.new _ _ hlm
      fit1 := Nat.le_refl _
      fit2 := by rw [hln]; exact hn
      n16 := h16
      pg1 := h1
      pg2 := h2
      ap3 := fun b hb => ⟨hwal.apart b hb, fun e => hfl.1 (e ▸ hb)⟩
      ap4 := hfl.2 }
    ap := fun b hb => by
      rcases hb with (rfl | rfl) | hb
      · exact ⟨hpl.1, hpl.2, hpf⟩
      · exact ⟨hBl.1, hBl.2, hBf⟩
      · exact hb.elim
    views := ⟨fun y hy => by simp at hy, fun y hy => by simp at hy, fun no _ _ => rfl⟩
    tm := Nat.le_refl _
    M1 := by omega
    vok := fun no hno => ⟨⟨by show no < _; omega, by show 0 < _; omega, zeros_length 480⟩, rfl⟩ }

section
variable {U : Nat → Prop} {w : World} {p f l d pages : Nat} {frames : Int} {V : Nat → PgV} {L : LS} {M N : Nat} {Dt : Nat → Prop}
end
end Go.Proofs.YtfapklpcgcgahaaGreatDoor

/-
  What a log tells of its room.
-/
namespace Go.Proofs.YtfapklpcgcgahaaGreatDoor
set_option linter.unusedSimpArgs false
set_option linter.unusedVariables false
open Go.RowKit
section
variable {R : Nat → Prop} {w : World} {p d : Nat} {L : LS}
theorem Room_any (h : LogOk R w p d L) : Calls Tryz.prog 39 #[.pointer (some ⟨p, 0, none⟩)] w fun e w' => e = .returned (.int .i64 L.room) ∧ w = w' := by
  obtain ⟨lv, rv, h⟩ := h
  obtain ⟨_, _, _, _, _, _, _, _, _, _, _, h2⟩ := h.cells
  have hp := h.blk.lt
  clear h
  go_enter Tryz.func39, Tryz.ntmps39
  go_wp2
  go_ret
  exact ⟨rfl, rfl⟩
theorem First_any (h : LogOk R w p d L) : Calls Tryz.prog 69 #[.pointer (some ⟨p, 0, none⟩)] w fun e w' => e = .returned (.int .u64 L.first) ∧ w = w' := by
  obtain ⟨lv, rv, h⟩ := h
  obtain ⟨_, _, _, h2, _⟩ := h.cells
  have hp := h.blk.lt
  clear h
  go_enter Tryz.func69, Tryz.ntmps69
  go_wp2
  go_ret
  exact ⟨rfl, rfl⟩
end
end Go.Proofs.YtfapklpcgcgahaaGreatDoor

/-
  What a store asks of the log and the disk beside its pool.
-/
namespace Go.Proofs.YtfapklpcgcgahaaGreatDoor
set_option linter.unusedSimpArgs false
set_option linter.unusedVariables false
open Go.RowKit Go.Maps

section
variable {U F : Nat → Prop} {w w' : World} {p f l d pages : Nat} {frames : Int} {V : Nat → PgV} {L : LS} {M N : Nat} {Dt : Nat → Prop}
theorem PoolOk.dead (h : PoolOk U w p f l d pages frames V L M N Dt) : Calls Tryz.prog 38 #[.pointer (some ⟨d, 0, none⟩)] w fun e w' => e = .returned (.bool false) ∧ w = w' := by
  obtain ⟨RP, RQ, RL, RD, hand, B, rv, fs, cur, S, T, lot, L', h1, h2, h3, h4⟩ := h
  exact Dead_alive h1.und.disk h1.und.still.calm.dead
theorem PoolOk.room (h : PoolOk U w p f l d pages frames V L M N Dt) : Calls Tryz.prog 39 #[.pointer (some ⟨l, 0, none⟩)] w fun e w' => e = .returned (.int .i64 L.room) ∧ w = w' := by
  obtain ⟨RP, RQ, RL, RD, hand, B, rv, fs, cur, S, T, lot, L', h1, h2, h3, h4⟩ := h
  rw [← h2.room]
  exact Room_any h1.und.log
theorem PoolOk.size (h : PoolOk U w p f l d pages frames V L M N Dt) : Calls Tryz.prog 40 #[.pointer (some ⟨l, 0, none⟩)] w fun e w' => e = .returned (.int .i64 (48 * ((L.n : Int) - 8))) ∧ w = w' := by
  obtain ⟨RP, RQ, RL, RD, hand, B, rv, fs, cur, S, T, lot, L', h1, h2, h3, h4⟩ := h
  rw [← h2.n]
  exact Size_any h1.und.log
theorem PoolOk.first (h : PoolOk U w p f l d pages frames V L M N Dt) : Calls Tryz.prog 69 #[.pointer (some ⟨l, 0, none⟩)] w fun e w' => e = .returned (.int .u64 L.first) ∧ w = w' := by
  obtain ⟨RP, RQ, RL, RD, hand, B, rv, fs, cur, S, T, lot, L', h1, h2, h3, h4⟩ := h
  rw [← h2.first]
  exact First_any h1.und.log
theorem PoolOk.next (h : PoolOk U w p f l d pages frames V L M N Dt) : Calls Tryz.prog 70 #[.pointer (some ⟨l, 0, none⟩)] w fun e w' => e = .returned (.int .u64 L.next) ∧ w = w' := by
  obtain ⟨RP, RQ, RL, RD, hand, B, rv, fs, cur, S, T, lot, L', h1, h2, h3, h4⟩ := h
  rw [← h2.next]
  exact Next_any h1.und.log
/-- The log is flushed. -/
theorem PoolOk.logFlush (h : PoolOk U w p f l d pages frames V L M N Dt) :
    Calls Tryz.prog 50 #[.pointer (some ⟨l, 0, none⟩)] w fun e w' => e = .returned (.int .i64 0) ∧ ∃ U', PoolOk U' w' p f l d pages frames V L M N Dt ∧ (∀ b, U' b → U b ∨ w.heap.size ≤ b) ∧ Fr U w w' := by
  obtain ⟨RP, RQ, RL, RD, hand, B, rv, fs, cur, S, T, lot, L', h1, h2, h3, h4⟩ := h
  refine h1.und.flush.mono ?_
  rintro e w' ⟨rfl, L2, S2, RD2, hu, hs, hsub, hf⟩
  refine ⟨rfl, Uni RP RQ RL RD2 f, ⟨RP, RQ, RL, RD2, hand, B, rv, fs, cur, S2, T, lot, L2, { h1 with
    pool := h1.pool.fr hf (fun x hx e => by
      have h5 := h1.ap x (.inl hx)
      exact e.elim h5.1 h5.2.1) (fun x hx e => by
      have h5 := h1.ap x (.inr hx)
      exact e.elim h5.1 h5.2.1)
    und := hu
    ap := fun x hx => ⟨(h1.ap x hx).1, fun e => by
      rcases hsub x e with e | e
      · exact (h1.ap x hx).2.1 e
      · rcases hx with hx | hx
        · have := h1.pool.lt x hx; omega
        · have := h1.pool.ltq x hx; omega, (h1.ap x hx).2.2⟩ }, h2.trans hs, fun b hb => hb, h4⟩, fun b hb => ?_, hf.mono (fun b _ e => e.elim (fun e => h3 b (.inr (.inr (.inl e)))) (fun e => h3 b (.inr (.inr (.inr (.inl e))))))⟩
  rcases hb with hb | hb | hb | hb | hb
  · exact .inl (h3 b (.inl hb))
  · exact .inl (h3 b (.inr (.inl hb)))
  · exact .inl (h3 b (.inr (.inr (.inl hb))))
  · rcases hsub b hb with e | e
    · exact .inl (h3 b (.inr (.inr (.inr (.inl e)))))
    · exact .inr e
  · exact .inl (h3 b (.inr (.inr (.inr (.inr hb)))))
end
end Go.Proofs.YtfapklpcgcgahaaGreatDoor

/-
  Numbers as bytes (plain): what Uvar, Var, Int, IntOf compute, and that what was written is read again.
-/
namespace Go.Proofs.YtfapklpcgcgahaaGreatDoor
set_option linter.unusedSimpArgs false
set_option linter.unusedVariables false
open Go.RowKit

def uvar (x : Nat) : List UInt8 := if x < 128 then [UInt8.ofNat x] else UInt8.ofNat (x % 128 + 128) :: uvar (x / 128)
termination_by x
decreasing_by omega

theorem uvar_small {x : Nat} (h : x < 128) : uvar x = [UInt8.ofNat x] := by rw [uvar, if_pos h]
theorem uvar_big {x : Nat} (h : 128 ≤ x) : uvar x = UInt8.ofNat (x % 128 + 128) :: uvar (x / 128) := by rw [uvar, if_neg (by omega)]
theorem uvar_pos (x : Nat) : 0 < (uvar x).length := by
  by_cases h : x < 128
  · rw [uvar_small h]; simp
  · rw [uvar_big (by omega)]; simp
theorem uvar_len : ∀ (k x : Nat), x < 128 ^ (k + 1) → (uvar x).length ≤ k + 1
  | 0, x, h => by rw [uvar_small (by simpa using h)]; simp
  | k + 1, x, h => by
    by_cases hx : x < 128
    · rw [uvar_small hx]; simp
    · rw [uvar_big (by omega)]
      have := uvar_len k (x / 128) (by rw [Nat.pow_succ] at h; exact Nat.div_lt_of_lt_mul (by rw [Nat.mul_comm]; exact h))
      simp only [List.length_cons]
      omega
theorem uvar_le (x : Nat) (h : x < 18446744073709551616) : (uvar x).length ≤ 10 := by
  have e : 128 ^ (9 + 1) = 1180591620717411303424 := by decide
  exact uvar_len 9 x (by rw [e]; omega)

/-- Var, from place i on, x so far, at most k bytes more. -/
def varF (b : List UInt8) : Nat → Nat → Nat → Nat × Nat × Nat
  | _, _, 0 => (0, 0, 5)
  | i, x, k + 1 => match b[i]? with
    | none => (0, 0, 4)
    | some c => if i = 9 ∧ 1 < c.toNat then (0, 0, 5)
      else if 128 ≤ c.toNat then varF b (i + 1) (x + c.toNat % 128 * 128 ^ i) k
      else if c.toNat = 0 ∧ 0 < i then (0, 0, 3)
      else (x + c.toNat * 128 ^ i, i + 1, 0)
def varB (b : List UInt8) : Nat × Nat × Nat := varF b 0 0 10

def intB (x : Int) : List UInt8 := if x < 0 then uvar ((-(x + 1)).toNat * 2 + 1) else uvar (x.toNat * 2)
def intV (w : Nat) : Int := if w % 2 = 1 then -((w / 2 : Nat) : Int) - 1 else ((w / 2 : Nat) : Int)
def intOfB (b : List UInt8) : Int × Nat × Nat := if (varB b).2.2 = 0 then (intV (varB b).1, (varB b).2.1, 0) else (0, 0, (varB b).2.2)

theorem ofNat_toNat {n : Nat} (h : n < 256) : (UInt8.ofNat n).toNat = n := by
  rw [UInt8.toNat_ofNat']; omega

theorem varF_uvar : ∀ (x i acc k : Nat) (pre rest : List UInt8), pre.length = i → x * 128 ^ i < 18446744073709551616 → (0 < i → 0 < x) → i ≤ 9 → 10 ≤ i + k →
    varF (pre ++ uvar x ++ rest) i acc k = (acc + x * 128 ^ i, i + (uvar x).length, 0) := by
  intro x
  induction x using Nat.strongRecOn with
  | _ x ih =>
    intro i acc k pre rest hp hx h0 hi hk
    obtain ⟨k, rfl⟩ : ∃ k', k = k' + 1 := ⟨k - 1, by omega⟩
    have h9 : i = 9 → x ≤ 1 := by
      rintro rfl
      have : 128 ^ 9 = 9223372036854775808 := by decide
      rw [this] at hx
      omega
    by_cases hs : x < 128
    · have hg : (pre ++ uvar x ++ rest)[i]? = some (UInt8.ofNat x) := by
        rw [uvar_small hs, List.append_assoc, List.getElem?_append_right (by omega), hp]; simp
      rw [varF, hg]
      dsimp only
      rw [ofNat_toNat (by omega), if_neg (by rintro ⟨h, h'⟩; have := h9 h; omega), if_neg (by omega), if_neg (by rintro ⟨h, h'⟩; have := h0 h'; omega), uvar_small hs]
      rfl
    · have hg : (pre ++ uvar x ++ rest)[i]? = some (UInt8.ofNat (x % 128 + 128)) := by
        rw [uvar_big (by omega), List.append_assoc, List.getElem?_append_right (by omega), hp]; simp
      have hi9 : i ≠ 9 := fun h => by have := h9 h; omega
      rw [varF, hg]
      dsimp only
      rw [ofNat_toNat (by omega), if_neg (by rintro ⟨h, _⟩; exact hi9 h), if_pos (by omega)]
      have hl : pre ++ uvar x ++ rest = (pre ++ [UInt8.ofNat (x % 128 + 128)]) ++ uvar (x / 128) ++ rest := by
        rw [uvar_big (by omega)]; simp
      have hpow : 128 ^ (i + 1) = 128 ^ i * 128 := Nat.pow_succ ..
      have hmul : x / 128 * 128 ^ (i + 1) = (x / 128 * 128) * 128 ^ i := by rw [hpow, Nat.mul_comm (128 ^ i) 128, Nat.mul_assoc]
      have hsum : x * 128 ^ i = (x / 128 * 128) * 128 ^ i + x % 128 * 128 ^ i := by rw [← Nat.add_mul]; congr 1; omega
      rw [hl, ih (x / 128) (by omega) (i + 1) _ k _ rest (by simp [hp]) (by rw [hmul]; omega) (fun _ => by omega) (by omega) (by omega)]
      rw [show (x % 128 + 128) % 128 = x % 128 from by omega, hmul, uvar_big (show 128 ≤ x by omega), List.length_cons]
      refine Prod.ext ?_ (Prod.ext ?_ rfl)
      · show acc + x % 128 * 128 ^ i + x / 128 * 128 * 128 ^ i = acc + x * 128 ^ i
        omega
      · show i + 1 + (uvar (x / 128)).length = i + ((uvar (x / 128)).length + 1)
        omega
theorem varB_uvar (x : Nat) (rest : List UInt8) (h : x < 18446744073709551616) : varB (uvar x ++ rest) = (x, (uvar x).length, 0) := by
  have := varF_uvar x 0 0 10 [] rest rfl (by simpa using h) (fun h => absurd h (by omega)) (by omega) (by omega)
  simpa [varB] using this
theorem intOfB_intB (x : Int) (rest : List UInt8) (h0 : -9223372036854775808 ≤ x) (h1 : x ≤ 9223372036854775807) : intOfB (intB x ++ rest) = (x, (intB x).length, 0) := by
  unfold intB intOfB
  by_cases hx : x < 0
  · rw [if_pos hx, varB_uvar _ _ (by omega)]
    simp only [if_true]
    refine Prod.ext ?_ rfl
    show intV _ = x
    unfold intV
    rw [if_pos (by omega)]
    omega
  · rw [if_neg hx, varB_uvar _ _ (by omega)]
    simp only [if_true]
    refine Prod.ext ?_ rfl
    show intV _ = x
    unfold intV
    rw [if_neg (by omega)]
    omega

end Go.Proofs.YtfapklpcgcgahaaGreatDoor

/-
  What a transaction does, with no program in sight: pages, changes, what undoes them, what the log has of them.
-/
namespace Go.Proofs.YtfapklpcgcgahaaGreatDoor
set_option linter.unusedSimpArgs false
set_option linter.unusedVariables false
open Go.RowKit

/-- Bytes laid over others. -/
def layB (c : List UInt8) (at_ : Nat) (b : List UInt8) : List UInt8 := c.take at_ ++ b ++ c.drop (at_ + b.length)
/-- What stands there. -/
def cutP (c : List UInt8) (at_ n : Nat) : List UInt8 := (c.drop at_).take n
theorem layB_length {c : List UInt8} {at_ : Nat} {b : List UInt8} (h : at_ + b.length ≤ c.length) : (layB c at_ b).length = c.length := by
  unfold layB
  simp only [List.length_append, List.length_take, List.length_drop]
  omega
theorem cutP_length {c : List UInt8} {at_ n : Nat} (h : at_ + n ≤ c.length) : (cutP c at_ n).length = n := by
  unfold cutP
  rw [List.length_take, List.length_drop]
  omega
/-- What stood there, laid again, is what was. -/
theorem layB_back {c : List UInt8} {at_ : Nat} {b : List UInt8} (h : at_ + b.length ≤ c.length) : layB (layB c at_ b) at_ (cutP c at_ b.length) = c := by
  have hl : (cutP c at_ b.length).length = b.length := cutP_length h
  unfold layB
  rw [hl]
  have h1 : (c.take at_ ++ b ++ c.drop (at_ + b.length)).take at_ = c.take at_ := by
    rw [List.append_assoc, List.take_append_of_le_length (by rw [List.length_take]; omega), List.take_of_length_le (by rw [List.length_take]; omega)]
  have h2 : (c.take at_ ++ b ++ c.drop (at_ + b.length)).drop (at_ + b.length) = c.drop (at_ + b.length) := by
    have hlen : (c.take at_ ++ b).length = at_ + b.length := by rw [List.length_append, List.length_take]; omega
    rw [← hlen, List.drop_left]
  rw [h1, h2]
  unfold cutP
  rw [List.append_assoc, ← List.drop_drop, List.take_append_drop, List.take_append_drop]
/-- A write that may be undone. -/
structure Chg where
  lsn : Nat
  no : Nat
  at_ : Nat
  old : List UInt8
/-- Pages' bytes. -/
abbrev Pgs := Nat → List UInt8
def layP (C : Pgs) (no at_ : Nat) (b : List UInt8) : Pgs := fun k => if k = no then layB (C no) at_ b else C k
def und1 (C : Pgs) (c : Chg) : Pgs := layP C c.no c.at_ c.old
/-- All undone, the last first, down to so many. -/
def unTo (cs : List Chg) (k : Nat) (C : Pgs) : Pgs := (cs.drop k).reverse.foldl und1 C
theorem unTo_all (cs : List Chg) (C : Pgs) : unTo cs cs.length C = C := by simp [unTo]
theorem unTo_snoc (cs : List Chg) (c : Chg) (k : Nat) (hk : k ≤ cs.length) (C : Pgs) : unTo (cs ++ [c]) k C = unTo cs k (und1 C c) := by
  unfold unTo
  rw [List.drop_append_of_le_length hk, List.reverse_append]
  rfl
theorem layP_back {C : Pgs} {no at_ : Nat} {b : List UInt8} (h : at_ + b.length ≤ (C no).length) : layP (layP C no at_ b) no at_ (cutP (C no) at_ b.length) = C := by
  funext k
  unfold layP
  by_cases e : k = no
  · rw [if_pos e, if_pos rfl, e]; exact layB_back h
  · rw [if_neg e, if_neg e]
/-- A Write is undone to what was. -/
theorem unTo_write (cs : List Chg) (k : Nat) (hk : k ≤ cs.length) (C : Pgs) (lsn no at_ : Nat) (b : List UInt8) (h : at_ + b.length ≤ (C no).length) :
    unTo (cs ++ [⟨lsn, no, at_, cutP (C no) at_ b.length⟩]) k (layP C no at_ b) = unTo cs k C := by
  rw [unTo_snoc _ _ _ hk]
  unfold und1
  rw [layP_back h]
/-- Back to one place, then to one before it. -/
theorem unTo_take (cs : List Chg) (m k : Nat) (hk : k ≤ m) (hm : m ≤ cs.length) (C : Pgs) : unTo (cs.take m) k (unTo cs m C) = unTo cs k C := by
  unfold unTo
  rw [← List.foldl_append]
  congr 1
  rw [← List.reverse_append]
  congr 1
  have h1 : cs.drop k = (cs.take m ++ cs.drop m).drop k := by rw [List.take_append_drop]
  rw [h1, List.drop_append_of_le_length (by rw [List.length_take]; omega)]
/-- One step of it. -/
theorem unTo_step (cs : List Chg) (c : Chg) (C : Pgs) : unTo (cs ++ [c]) cs.length C = und1 C c := by
  rw [unTo_snoc _ _ _ (Nat.le_refl _), unTo_all]
/-- Pages keep their length. -/
theorem layP_length {C : Pgs} {no at_ : Nat} {b : List UInt8} (h : at_ + b.length ≤ (C no).length) (k : Nat) : (layP C no at_ b k).length = (C k).length := by
  unfold layP
  by_cases e : k = no
  · rw [if_pos e, layB_length h, e]
  · rw [if_neg e]

/-- Bytes without the noughts at their end. -/
def shortB (b : List UInt8) : List UInt8 := (b.reverse.dropWhile (· == 0)).reverse
theorem shortB_le (b : List UInt8) : (shortB b).length ≤ b.length := by
  unfold shortB
  rw [List.length_reverse]
  have := (List.dropWhile_sublist (fun x : UInt8 => x == 0) (l := b.reverse)).length_le
  rwa [List.length_reverse] at this
theorem dropWhile_drop {α : Type} (f : α → Bool) (l : List α) : l.dropWhile f = l.drop (l.length - (l.dropWhile f).length) := by
  induction l with
  | nil => rfl
  | cons x l ih =>
    have h1 := (List.dropWhile_sublist f (l := l)).length_le
    rw [List.dropWhile_cons]
    split
    · rw [List.length_cons, show l.length + 1 - (l.dropWhile f).length = (l.length - (l.dropWhile f).length) + 1 from by omega, List.drop_succ_cons]
      exact ih
    · simp
theorem shortB_eq (b : List UInt8) : shortB b = b.take (shortB b).length := by
  unfold shortB
  rw [List.length_reverse]
  conv => lhs; rw [dropWhile_drop]
  rw [List.drop_reverse, List.reverse_reverse, List.length_reverse]
  congr 1
  have h1 := (List.dropWhile_sublist (fun x : UInt8 => x == 0) (l := b.reverse)).length_le
  rw [List.length_reverse] at h1
  omega
/-- A number's eight bytes, the least first. -/
def le64 (n : Nat) : List UInt8 := (List.range 8).map fun i => UInt8.ofNat (n / 256 ^ i % 256)
theorem le64_length (n : Nat) : (le64 n).length = 8 := by simp [le64]
/-- The record of a write. -/
def updB (no at_ : Nat) (old b : List UInt8) : List UInt8 := [1] ++ uvar no ++ uvar at_ ++ uvar b.length ++ (uvar (shortB old).length ++ shortB old) ++ shortB b
/-- The record of an undoing. -/
def undB (no at_ : Nat) (old : List UInt8) (of : Nat) : List UInt8 := [2] ++ uvar no ++ uvar at_ ++ uvar old.length ++ le64 of ++ shortB old
theorem uvar_le2 {x : Nat} (h : x < 16384) : (uvar x).length ≤ 2 := uvar_len 1 x h
theorem updB_le {no at_ : Nat} {old b : List UInt8} (h1 : no < 4096) (h2 : at_ ≤ 480) (h3 : b.length ≤ 480) (h4 : old.length = b.length) : (updB no at_ old b).length ≤ 9 + 2 * b.length := by
  have q1 := uvar_le2 (x := no) (by omega)
  have q2 := uvar_le2 (x := at_) (by omega)
  have q3 := uvar_le2 (x := b.length) (by omega)
  have q5 := shortB_le old
  have q6 := shortB_le b
  have q4 := uvar_le2 (x := (shortB old).length) (by omega)
  unfold updB
  simp only [List.length_append, List.length_cons, List.length_nil]
  omega
theorem undB_len (no at_ : Nat) (old : List UInt8) (of of' : Nat) : (undB no at_ old of).length = (undB no at_ old of').length := by
  unfold undB
  simp only [List.length_append, le64_length]
theorem undB_le {no at_ : Nat} {old : List UInt8} {of : Nat} (h1 : no < 4096) (h2 : at_ ≤ 480) (h3 : old.length ≤ 480) : (undB no at_ old of).length ≤ 15 + old.length := by
  have q1 := uvar_le2 (x := no) (by omega)
  have q2 := uvar_le2 (x := at_) (by omega)
  have q3 := uvar_le2 (x := old.length) (by omega)
  have q5 := shortB_le old
  unfold undB
  simp only [List.length_append, List.length_cons, List.length_nil, le64_length]
  omega
/-- What undoing needs of the log. -/
def needC (c : Chg) : Nat := 16 + (undB c.no c.at_ c.old 0).length
def needAll (cs : List Chg) : Nat := (cs.map needC).sum
theorem needAll_snoc (cs : List Chg) (c : Chg) : needAll (cs ++ [c]) = needAll cs + needC c := by simp [needAll]
end Go.Proofs.YtfapklpcgcgahaaGreatDoor
