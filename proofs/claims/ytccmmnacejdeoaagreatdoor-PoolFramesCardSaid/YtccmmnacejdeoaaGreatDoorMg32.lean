/-
  PoolOk, PgDataB, PoolMade, in one text.
-/
import Derived.Test.YtccmmnacejdeoaaGreatDoorMg31
import Derived.Test.YtccmmnacejdeoaaGreatDoorMg21
import Derived.Test.YtccmmnacejdeoaaGreatDoorMg23
import Derived.Test.YtccmmnacejdeoaaGreatDoorMg13
/-
  A pool as its callers see it (PoolOk): the pages, whatever is held where.
-/
namespace Go.Proofs.YtccmmnacejdeoaaGreatDoor
set_option linter.unusedSimpArgs false
set_option linter.unusedVariables false
open Go.RowKit Go.Maps

/-- A pool over a file of so many pages and a log: it has the pages V; all that it is made of lies in U; what is not in the file as it is lies in Dt. -/
def PoolOk (U : Nat → Prop) (w : World) (p f l d pages : Nat) (frames : Int) (V : Nat → PgV) (L : LS) (M N : Nat) (Dt : Nat → Prop) : Prop :=
  ∃ RP RQ RL RD hand B rv fs cur S T lot L', PIn w p f l d pages frames V L' M N RP RQ RL RD hand B rv fs cur S T lot ∧ LSame L L' ∧ (∀ b, Uni RP RQ RL RD f b → U b) ∧ ∀ y ∈ fs, y.2.dirty = true → Dt y.2.x.no
section
variable {U F : Nat → Prop} {w w' : World} {p f l d pages : Nat} {frames : Int} {V : Nat → PgV} {L : LS} {M N : Nat} {Dt : Nat → Prop}
theorem PoolOk.fr (h : PoolOk U w p f l d pages frames V L M N Dt) (hf : Fr F w w') (hF : ∀ b, U b → ¬ F b) : PoolOk U w' p f l d pages frames V L M N Dt := by
  obtain ⟨RP, RQ, RL, RD, hand, B, rv, fs, cur, S, T, lot, L', h1, h2, h3, h4⟩ := h
  exact ⟨RP, RQ, RL, RD, hand, B, rv, fs, cur, S, T, lot, L', h1.fr hf (fun b hb => hF b (h3 b hb)), h2, h3, h4⟩
theorem PoolOk.new (h : PoolOk U w p f l d pages frames V L M N Dt) (hf : Fr Nob w w') : PoolOk U w' p f l d pages frames V L M N Dt := h.fr hf (fun _ _ h => h)
theorem PoolOk.vok (h : PoolOk U w p f l d pages frames V L M N Dt) (no : Nat) (hno : no < pages) : (V no).Ok ∧ (V no).no = no := by
  obtain ⟨RP, RQ, RL, RD, hand, B, rv, fs, cur, S, T, lot, L', h1, h2, h3, h4⟩ := h
  exact h1.vok no hno
theorem PoolOk.pg (h : PoolOk U w p f l d pages frames V L M N Dt) : 1 ≤ pages ∧ pages ≤ 4096 := by
  obtain ⟨RP, RQ, RL, RD, hand, B, rv, fs, cur, S, T, lot, L', h1, h2, h3, h4⟩ := h
  exact ⟨h1.und.pg1, h1.und.pg2⟩
theorem PoolOk.more (h : PoolOk U w p f l d pages frames V L M N Dt) {K : Nat} (hK : M ≤ K) (h1 : K ≤ 1000000000000000000) : PoolOk U w p f l d pages frames V L K N Dt := by
  obtain ⟨RP, RQ, RL, RD, hand, B, rv, fs, cur, S, T, lot, L', h2, h3⟩ := h
  exact ⟨RP, RQ, RL, RD, hand, B, rv, fs, cur, S, T, lot, L', { h2 with tm := Nat.le_trans h2.tm hK, M1 := h1 }, h3⟩
/-- The pages alone count. -/
theorem PoolOk.cong (h : PoolOk U w p f l d pages frames V L M N Dt) {V' : Nat → PgV} (hV : ∀ no, no < pages → V' no = V no) : PoolOk U w p f l d pages frames V' L M N Dt := by
  obtain ⟨RP, RQ, RL, RD, hand, B, rv, fs, cur, S, T, lot, L', h1, h2, h3, h4⟩ := h
  refine ⟨RP, RQ, RL, RD, hand, B, rv, fs, cur, S, T, lot, L', { h1 with views := ⟨h1.views.ok, fun y hy => ?_, fun no hno hc => ?_⟩, vok := fun no hno => by rw [hV no hno]; exact h1.vok no hno }, h2, h3, h4⟩
  · rw [hV _ (h1.views.ok y hy).2]; exact h1.views.held y hy
  · rw [hV no hno]; exact h1.views.file no hno hc
theorem PoolOk.trim (h : PoolOk U w p f l d pages frames V L M N Dt) : PoolOk (fun b => U b ∧ b < w.heap.size) w p f l d pages frames V L M N Dt := by
  obtain ⟨RP, RQ, RL, RD, hand, B, rv, fs, cur, S, T, lot, L', h1, h2, h3, h4⟩ := h
  exact ⟨RP, RQ, RL, RD, hand, B, rv, fs, cur, S, T, lot, L', h1, h2, fun b hb => ⟨h3 b hb, h1.lt hb⟩, h4⟩
theorem PoolOk.dmono (h : PoolOk U w p f l d pages frames V L M N Dt) {Dt' : Nat → Prop} (hd : ∀ k, Dt k → Dt' k) : PoolOk U w p f l d pages frames V L M N Dt' := by
  obtain ⟨RP, RQ, RL, RD, hand, B, rv, fs, cur, S, T, lot, L', h1, h2, h3, h4⟩ := h
  exact ⟨RP, RQ, RL, RD, hand, B, rv, fs, cur, S, T, lot, L', h1, h2, h3, fun y hy e => hd _ (h4 y hy e)⟩
/-- Get. -/
theorem PoolOk.get (h : PoolOk U w p f l d pages frames V L M N Dt) (no : Nat) (hno : no < pages) (hM : M + 1 ≤ 1000000000000000000) :
    Calls Tryz.prog 9 #[.pointer (some ⟨p, 0, none⟩), .int .i64 no] w fun e w' => ∃ g, e = .returned (.tuple #[.agg #[.int .i64 no, .int .u64 (V no).lsn, .slice (some ⟨g, 0, none⟩) 480 480], .int .i64 0]) ∧ CopyIn w' g (V no).d ∧ w.heap.size ≤ g ∧ ∃ U', PoolOk U' w' p f l d pages frames V L (M + 1) N Dt ∧ ¬ U' g ∧ (∀ b, U' b → U b ∨ w.heap.size ≤ b) ∧ Fr U w w' := by
  obtain ⟨RP, RQ, RL, RD, hand, B, rv, fs, cur, S, T, lot, L', h1, h2, h3, h4⟩ := h
  obtain ⟨hvo, hvn⟩ := h1.vok no hno
  by_cases hh : ∃ y ∈ fs, y.2.x.no = no
  · obtain ⟨y, hy, hyn⟩ := hh
    obtain ⟨i, hi⟩ := List.mem_iff_getElem?.1 hy
    obtain ⟨b, m⟩ := y
    have hx : m.x = V no := by
      have := h1.views.held _ hy
      dsimp only at this hyn
      rw [hyn] at this
      exact this
    have hmn : m.x.no = no := hyn
    have hg := Get_held h1 hi
    rw [hmn, hx] at hg
    refine hg.mono ?_
    rintro e w' ⟨g, rfl, hc, hgg, hin, hf⟩
    refine ⟨g, rfl, hc, hgg, Uni RP RQ RL RD f, ⟨RP, RQ, RL, RD, hand, B, rv, _, cur, S, T, lot, L', { hin with tm := by have := hin.tm; omega, M1 := hM }, h2, fun b hb => hb, fun y hy hd => (List.mem_or_eq_of_mem_set hy).elim (fun hy => h4 y hy hd) (fun e => by rw [e] at hd ⊢; have h5 := h4 _ (List.mem_of_getElem? hi) hd; dsimp only at h5 ⊢; rw [hx] at h5; exact h5)⟩, fun e => ?_, fun b hb => .inl (h3 b hb), hf.mono (fun b _ hb => h3 b (.inl hb))⟩
    have := h1.lt e; omega
  · have hn : ∀ y ∈ fs, y.2.x.no ≠ no := fun y hy e => hh ⟨y, hy, e⟩
    have hg := Get_new h1 (V no) (by rw [hvn]; exact hno) (fun y hy => by rw [hvn]; exact hn y hy) (by rw [hvn]) hM
    rw [hvn] at hg
    refine hg.mono ?_
    rintro e w' ⟨g, rfl, hc, hgg, L2, S2, T2, lot2, RP2, RQ2, RD2, hand2, rv2, fs2, cur2, hin, hs, hdd, hug, hsub, hf⟩
    exact ⟨g, rfl, hc, hgg, Uni RP2 RQ2 RL RD2 f, ⟨RP2, RQ2, RL, RD2, hand2, B, rv2, fs2, cur2, S2, T2, lot2, L2, hin, h2.trans hs, fun b hb => hb, fun y hy hd => by
      obtain ⟨z, hz, e1, e2⟩ := hdd y hy hd
      rw [← e1]; exact h4 z hz e2⟩, hug, fun b hb => (hsub b hb).imp (h3 b) id, hf.mono (fun b _ hb => h3 b hb)⟩
/-- Put of a page. -/
theorem PoolOk.put (h : PoolOk U w p f l d pages frames V L M N Dt) (x : PgV) (kb ko c : Nat) (hb : Bsl w (some ⟨kb, ko, none⟩) c x.d) (hok : x.Ok) (hno : x.no < pages) (hls : x.lsn < L.next) (hkb : ¬ U kb) (hM : M + 1 ≤ 1000000000000000000) :
    Calls Tryz.prog 8 #[.pointer (some ⟨p, 0, none⟩), .agg #[.int .i64 x.no, .int .u64 x.lsn, .slice (some ⟨kb, ko, none⟩) 480 c]] w fun e w' => e = .returned (.int .i64 0) ∧ ∃ U', PoolOk U' w' p f l d pages frames (fun no => if no = x.no then x else V no) L (M + 1) N (fun k => Dt k ∨ k = x.no) ∧ (∀ b, U' b → U b ∨ w.heap.size ≤ b) ∧ Fr U w w' := by
  obtain ⟨RP, RQ, RL, RD, hand, B, rv, fs, cur, S, T, lot, L', h1, h2, h3, h4⟩ := h
  by_cases hh : ∃ y ∈ fs, y.2.x.no = x.no
  · obtain ⟨y, hy, hyn⟩ := hh
    obtain ⟨i, hi⟩ := List.mem_iff_getElem?.1 hy
    obtain ⟨b, m⟩ := y
    refine (Put_held h1 x kb ko c hb hok hno (by rw [h2.next]; exact hls) hi hyn).mono ?_
    rintro e w' ⟨rfl, gn, hg1, hg2, hin, hf⟩
    refine ⟨rfl, Uni RP (fun k => RQ k ∨ k = gn) RL RD f, ⟨RP, _, RL, RD, hand, B, rv, _, cur, S, T, lot, L', { hin with tm := by have := hin.tm; omega, M1 := hM }, h2, fun b hb => hb, fun y hy hd => (List.mem_or_eq_of_mem_set hy).elim (fun hy => .inl (h4 y hy hd)) (fun e => by rw [e]; exact .inr rfl)⟩, fun b hb => ?_, hf.mono (fun b _ hb => h3 b (.inl hb))⟩
    rcases hb with hb | (hb | hb) | hb | hb | hb
    · exact .inl (h3 b (.inl hb))
    · exact .inl (h3 b (.inr (.inl hb)))
    · exact .inr (by omega)
    · exact .inl (h3 b (.inr (.inr (.inl hb))))
    · exact .inl (h3 b (.inr (.inr (.inr (.inl hb)))))
    · exact .inl (h3 b (.inr (.inr (.inr (.inr hb)))))
  · have hn : ∀ y ∈ fs, y.2.x.no ≠ x.no := fun y hy e => hh ⟨y, hy, e⟩
    refine (Put_new h1 x kb ko c hb hok hno (by rw [h2.next]; exact hls) hn hM (fun e => hkb (h3 kb e))).mono ?_
    rintro e w' ⟨rfl, L2, S2, T2, lot2, RP2, RQ2, RD2, hand2, rv2, fs2, cur2, hin, hs, hdd, hsub, hf⟩
    exact ⟨rfl, Uni RP2 RQ2 RL RD2 f, ⟨RP2, RQ2, RL, RD2, hand2, B, rv2, fs2, cur2, S2, T2, lot2, L2, hin, h2.trans hs, fun b hb => hb, fun y hy hd => by
      rcases hdd y hy hd with e | ⟨z, hz, e1, e2⟩
      · exact .inr e
      · rw [← e1]; exact .inl (h4 z hz e2)⟩, fun b hb => (hsub b hb).imp (h3 b) id, hf.mono (fun b _ hb => h3 b hb)⟩
/-- Put of what is no page. -/
theorem PoolOk.putBad (h : PoolOk U w p f l d pages frames V L M N Dt) (no lsn : Int) (A : Option Addr) (n c : Nat) (hb : no < 0 ∨ (pages : Int) ≤ no ∨ n ≠ 480 ∨ (L.next : Int) ≤ lsn) :
    Calls Tryz.prog 8 #[.pointer (some ⟨p, 0, none⟩), .agg #[.int .i64 no, .int .u64 lsn, .slice A n c]] w fun e w' => e = .returned (.int .i64 1) ∧ Fr Nob w w' := by
  obtain ⟨RP, RQ, RL, RD, hand, B, rv, fs, cur, S, T, lot, L', h1, h2, h3, h4⟩ := h
  exact Put_bad h1 no lsn A n c (by rw [h2.next]; exact hb)
/-- Evict. -/
theorem PoolOk.evict (h : PoolOk U w p f l d pages frames V L M N Dt) (no : Nat) (hno : no < pages) (hM : M + 1 ≤ 1000000000000000000) :
    Calls Tryz.prog 10 #[.pointer (some ⟨p, 0, none⟩), .int .i64 no] w fun e w' => e = .returned (.int .i64 0) ∧ ∃ U', PoolOk U' w' p f l d pages frames V L (M + 1) N (fun k => Dt k ∧ k ≠ no) ∧ (∀ b, U' b → U b ∨ w.heap.size ≤ b) ∧ Fr U w w' := by
  obtain ⟨RP, RQ, RL, RD, hand, B, rv, fs, cur, S, T, lot, L', h1, h2, h3, h4⟩ := h
  by_cases hh : ∃ y ∈ fs, y.2.x.no = no
  · obtain ⟨y, hy, hyn⟩ := hh
    obtain ⟨i, hi⟩ := List.mem_iff_getElem?.1 hy
    obtain ⟨b, m⟩ := y
    have hmn : m.x.no = no := hyn
    have hg := Evict_held h1 hi hM
    rw [hmn] at hg
    refine hg.mono ?_
    rintro e w' ⟨rfl, L2, S2, T2, lot2, RD2, rv2, fs2, cur2, hin, hs, _, hdd, hsub, hf⟩
    refine ⟨rfl, Uni RP RQ RL RD2 f, ⟨RP, RQ, RL, RD2, hand, B, rv2, fs2, cur2, S2, T2, lot2, L2, hin, h2.trans hs, fun b hb => hb, fun y hy hd => by
      obtain ⟨e0, z, hz, e1, e2⟩ := hdd y hy
      exact ⟨by rw [← e1]; exact h4 z hz (e2 hd), e0⟩⟩, fun b hb => ?_, hf.mono (fun b _ hb => h3 b hb)⟩
    rcases hb with hb | hb | hb | hb | hb
    · exact .inl (h3 b (.inl hb))
    · exact .inl (h3 b (.inr (.inl hb)))
    · exact .inl (h3 b (.inr (.inr (.inl hb))))
    · rcases hsub b hb with e | e
      · exact .inl (h3 b (.inr (.inr (.inr (.inl e)))))
      · exact .inr e
    · exact .inl (h3 b (.inr (.inr (.inr (.inr hb)))))
  · have hn : ∀ y ∈ fs, y.2.x.no ≠ no := fun y hy e => hh ⟨y, hy, e⟩
    refine (Evict_not h1 no hno hn).mono ?_
    rintro e w' ⟨rfl, rfl⟩
    exact ⟨rfl, U, ⟨RP, RQ, RL, RD, hand, B, rv, fs, cur, S, T, lot, L', { h1 with tm := by have := h1.tm; omega, M1 := hM }, h2, h3, fun y hy hd => ⟨h4 y hy hd, hn y hy⟩⟩, fun b hb => .inl hb, Fr.refl _ _⟩
theorem PoolOk.evictBad (h : PoolOk U w p f l d pages frames V L M N Dt) (no : Int) (hno : no < 0 ∨ (pages : Int) ≤ no) :
    Calls Tryz.prog 10 #[.pointer (some ⟨p, 0, none⟩), .int .i64 no] w fun e w' => e = .returned (.int .i64 1) ∧ w = w' := by
  obtain ⟨RP, RQ, RL, RD, hand, B, rv, fs, cur, S, T, lot, L', h1, h2, h3, h4⟩ := h
  exact Evict_bad h1 no hno
/-- A record is put behind the others. -/
theorem PoolOk.append (h : PoolOk U w p f l d pages frames V L M N Dt) (a : Addr) (c : Nat) (b : List UInt8) (hb : BytesIn w (some a) b) (ha : a.block < w.heap.size) (hlen : b.length ≤ 2000) (hr : b.length + 16 ≤ L.room) (hN : N + 1 ≤ 400000) :
    Calls Tryz.prog 12 #[.pointer (some ⟨l, 0, none⟩), .slice (some a) b.length c] w fun e w' => e = .returned (.tuple #[.int .u64 L.next, .int .i64 0]) ∧ ∃ U', PoolOk U' w' p f l d pages frames V (L.add b) M (N + 1) Dt ∧ (∀ b, U' b → U b ∨ w.heap.size ≤ b) ∧ Fr U w w' := by
  obtain ⟨RP, RQ, RL, RD, hand, B, rv, fs, cur, S, T, lot, L', h1, h2, h3, h4⟩ := h
  have hap := h1.und.append a c b hb ha hlen (by rw [h2.room]; exact hr) hN
  rw [h2.next] at hap
  refine hap.mono ?_
  rintro e w' ⟨rfl, RL2, hu, hsub, hf⟩
  have hRU : ∀ x, RL2 x → RL x ∨ w.heap.size ≤ x := hsub
  have hfU : ∀ x, RL x → U x := fun x hx => h3 x (.inr (.inr (.inl hx)))
  have hsz := hf.size
  have hap' : ∀ x, RP x ∨ RQ x → ¬ RL2 x ∧ ¬ RD x ∧ x ≠ f := fun x hx => ⟨fun e => by
    rcases hsub x e with e | e
    · exact (h1.ap x hx).1 e
    · rcases hx with hx | hx
      · have := h1.pool.lt x hx; omega
      · have := h1.pool.ltq x hx; omega, (h1.ap x hx).2⟩
  refine ⟨rfl, Uni RP RQ RL2 RD f, ⟨RP, RQ, RL2, RD, hand, B, rv, fs, cur, S, T, lot, L'.add b, { h1 with
    pool := h1.pool.fr hf (fun x hx e => (h1.ap x (.inl hx)).1 e) (fun x hx e => (h1.ap x (.inr hx)).1 e)
    und := hu
    ap := hap' }, ?_, fun b hb => hb, h4⟩, fun x hx => ?_, hf.mono (fun x _ hx => hfU x hx)⟩
  · exact ⟨h2.start, h2.n, h2.first, by show L'.next + 1 = L.next + 1; rw [h2.next], by show L'.l ++ [(b, L'.fin)] = L.l ++ [(b, L.fin)]; rw [h2.l, h2.fin], by show L'.fin + _ = L.fin + _; rw [h2.fin], by show L'.room - _ = L.room - _; rw [h2.room], h2.life, h2.turn⟩
  · rcases hx with hx | hx | hx | hx | hx
    · exact .inl (h3 x (.inl hx))
    · exact .inl (h3 x (.inr (.inl hx)))
    · rcases hsub x hx with e | e
      · exact .inl (hfU x e)
      · exact .inr e
    · exact .inl (h3 x (.inr (.inr (.inr (.inl hx)))))
    · exact .inl (h3 x (.inr (.inr (.inr (.inr hx)))))
end
end Go.Proofs.YtccmmnacejdeoaaGreatDoor

/-
  480 bytes by a number.
-/
namespace Go.Proofs.YtccmmnacejdeoaaGreatDoor
set_option linter.unusedSimpArgs false
set_option linter.unusedVariables false
open Go.RowKit

def dataAt (n i : Nat) : UInt8 := UInt8.ofNat (n * (i % 7 + 1))
/-- 480 bytes by a number. -/
def dataB (n : Nat) : List UInt8 := (List.range 480).map (dataAt n)
def dataK (n k : Nat) : List UInt8 := (List.range 480).map fun i => if i < k then dataAt n i else 0
theorem dataB_length (n : Nat) : (dataB n).length = 480 := by unfold dataB; rw [List.length_map, List.length_range]
theorem dataK_length (n k : Nat) : (dataK n k).length = 480 := by unfold dataK; rw [List.length_map, List.length_range]
theorem dataK_zero (n : Nat) : dataK n 0 = zeros 480 := by
  refine List.ext_getElem? (fun i => ?_)
  unfold dataK zeros
  rw [List.getElem?_map, List.getElem?_replicate]
  by_cases h : i < 480
  · rw [List.getElem?_range h, if_pos h]; rfl
  · rw [List.getElem?_eq_none (by rw [List.length_range]; omega), if_neg h]; rfl
theorem dataK_succ (n k : Nat) (h : k < 480) : dataK n (k + 1) = (dataK n k).set k (dataAt n k) := by
  refine List.ext_getElem? (fun i => ?_)
  rw [List.getElem?_set]
  unfold dataK
  rw [List.getElem?_map, List.getElem?_map, List.length_map, List.length_range]
  by_cases hi : i < 480
  · rw [List.getElem?_range hi]
    by_cases e : k = i
    · subst e; rw [if_pos rfl, if_pos hi]; simp
    · rw [if_neg e]
      have : (i < k + 1) ↔ (i < k) := by omega
      simp [this]
  · rw [List.getElem?_eq_none (by rw [List.length_range]; omega)]
    rw [if_neg (by omega)]; rfl
theorem dataK_full (n : Nat) : dataK n 480 = dataB n := by
  unfold dataK dataB
  refine List.map_congr_left (fun i hi => ?_)
  rw [List.mem_range] at hi
  rw [if_pos hi]

set_option maxHeartbeats 1600000 in
set_option maxRecDepth 100000 in
theorem Data_any (n : Nat) (w : World) (hn : n ≤ 100000) :
    Calls Tryz.prog 13 #[.int .i64 n] w fun e w' => e = .returned (.slice (some ⟨w.heap.size, 0, none⟩) 480 480) ∧ Blk w' w.heap.size 5 (bts (dataB n)).toArray ∧ Fr Nob w w' := by
  have hmk := make480
  have qL := len_by
  have hb0 : Blk (w.alloc (.cells (zeroCells 480) 5)) w.heap.size 5 (bts (dataK n 0)).toArray := by rw [dataK_zero, ← zeroCells_eq]; exact Blk.new _ _ _
  have HB0 := Lib.hid hb0
  have HF0 : Hid (Fr Nob w (w.alloc (.cells (zeroCells 480) 5))) := (Fr.refl _ w).alloc _
  obtain ⟨g, hg⟩ : ∃ g, w.heap.size = g := ⟨_, rfl⟩
  have HG := Lib.hid hg
  rw [hg] at HB0 ⊢
  clear hb0
  go_enter Tryz.func13, Tryz.ntmps13
  go_wp2
  try (rw [qL]; go_wp2)
  clear hg
  go_loopw [4, 8] (fun _ iv wr => ∃ k : Nat, k ≤ 480 ∧ iv = .int .i64 k ∧ Hid (Blk wr g 5 (bts (dataK n k)).toArray) ∧ Hid (Fr Nob w wr)) (fun _ iv _ => 480 - (intOf iv).toNat)
  case atStart => exact ⟨0, by omega, rfl, HB0.out, HF0.out⟩
  case round =>
    clear HB0 HF0
    obtain ⟨k, hk, rfl, hB, hF⟩ := hrel
    by_cases hlt : k < 480
    · have hlen : k < (dataK n k).length := by rw [dataK_length]; exact hlt
      have ck := Blk.cell hB.out k
      have fk := Blk.frozen hB.out k
      have hgl := hB.out.lt
      rw [List.getElem?_toArray, bts_get, List.getElem?_eq_getElem hlen, Option.map_some] at ck
      have e1 : (k : Int).tmod 7 = ((k % 7 : Nat) : Int) := by rw [Int.tmod_eq_emod_of_nonneg (by omega)]; omega
      have e2 : IntKind.i64.wrap (((k % 7 : Nat) : Int) + 1) = ((k % 7 + 1 : Nat) : Int) := by rw [IntKind.wrap_i64]; omega
      have hb7 : k % 7 + 1 ≤ 7 := by omega
      have hmul : n * (k % 7 + 1) ≤ 700000 := Nat.le_trans (Nat.mul_le_mul hn hb7) (by decide)
      have e3 : IntKind.i64.wrap ((n : Int) * ((k % 7 + 1 : Nat) : Int)) = ((n * (k % 7 + 1) : Nat) : Int) := by rw [← Int.natCast_mul, IntKind.wrap_i64]; omega
      have e4 : IntKind.u8.wrap ((n * (k % 7 + 1) : Nat) : Int) = ((dataAt n k).toNat : Int) := by
        rw [show IntKind.u8.wrap ((n * (k % 7 + 1) : Nat) : Int) = ((n * (k % 7 + 1) : Nat) : Int) % 256 from rfl]
        unfold dataAt
        rw [UInt8.toNat_ofNat']
        omega
      have e0 : IntKind.i64.wrap ((k : Int).tmod 7) = ((k % 7 : Nat) : Int) := by rw [e1, IntKind.wrap_i64]; omega
      have e5 : wrap64 ((n : Int) * ((k : Int) % 7 + 1)) % 256 = ((dataAt n k).toNat : Int) := by
        have e6 : (k : Int) % 7 + 1 = ((k % 7 + 1 : Nat) : Int) := by omega
        rw [e6, ← Int.natCast_mul, show wrap64 ((n * (k % 7 + 1) : Nat) : Int) = ((n * (k % 7 + 1) : Nat) : Int) from by unfold wrap64; omega]; exact e4
      have HSet : Hid (Blk (wr.setCell ⟨g, k, none⟩ (.int .u8 (dataAt n k).toNat)) g 5 (bts (dataK n (k + 1))).toArray) := by
        have := hB.out.set_ k (.int .u8 (dataAt n k).toNat)
        rw [bts_set] at this
        rw [dataK_succ n k hlt]; exact this
      have HFs : Hid (Fr Nob w (wr.setCell ⟨g, k, none⟩ (.int .u8 (dataAt n k).toNat))) := hF.out.setCell (p := ⟨g, k, none⟩) (.inl (by rw [HG.out]; exact Nat.le_refl _)) _
      generalize (dataK n k)[k] = old at ck
      clear hB hF hlen
      go_wp2
      go_roundw
      case rel => exact ⟨k + 1, by omega, by go_num, HSet.out, HFs.out⟩
      case measure => simp [intOf]; omega
    · obtain rfl : k = 480 := by omega
      have HBf := Lib.hid hB.out
      rw [dataK_full] at HBf
      clear hB
      go_wp2
      go_ret
      exact ⟨rfl, HBf.out, hF.out⟩
end Go.Proofs.YtccmmnacejdeoaaGreatDoor

/-
  A pool over a new disk.
-/
namespace Go.Proofs.YtccmmnacejdeoaaGreatDoor
set_option linter.unusedSimpArgs false
set_option linter.unusedVariables false
open Go.RowKit Go.Maps

theorem Open_fresh {R : Nat → Prop} {w : World} {d n pages : Nat} (hd : DiskOk R w d (DS.new n)) (h1 : 1 ≤ pages) (h2 : pages ≤ 4096) (hat : 8 * pages + 80 ≤ n) :
    Calls Tryz.prog 18 #[.pointer (some ⟨d, 0, none⟩), .int .i64 0, .int .i64 pages] w fun e w' => ∃ p R', e = .returned (.tuple #[.pointer (some ⟨p, 0, none⟩), .int .i64 0]) ∧ w.heap.size ≤ p ∧ p < w'.heap.size ∧ FileAt w' p d 0 pages 0 ∧ DiskOk R' w' d (DS.new n) ∧ ¬ R' p ∧ (∀ b, R' b → R b ∨ w.heap.size ≤ b) ∧ FrD R w w' := by
  have hst := Still.new n
  have hps : PSt (DS.new n).now 0 pages 0 [] (fun _ => none) := PSt.new n 0 pages (by omega)
  obtain ⟨hb, hh, e1, e2⟩ := hps.left
  have hln : (DS.new n).now.length = n := (DS.new_facts n).1
  have hrun : openRun (DS.new n) 0 pages hb = (DS.new n, 0) := by
    unfold openRun
    rw [if_pos (by rw [e1])]
  have := Open_run (at0 := 0) (pages := pages) hd hst.calm.dead h1 h2 (by rw [hln]; omega) hh (by rw [hst.waits]; simp) (by rw [hrun]) (by rw [hrun]; exact hst.calm.dead) (by rw [hrun]; exact hps.sound) (by omega)
  rw [hrun, e2] at this
  exact this
/-- What page.Open, wal.Open and pool.New leave on a new disk. -/
theorem PoolOk.fresh {w : World} {p f l d pages n logn : Nat} {frames : Int} {RL RD : Nat → Prop} {B : Nat} (hfile : FileAt w f d 0 pages 0) (hwal : WalIn w l d (LS.empty (8 * pages + 80) logn) (DS.new n) RL RD) (hp : Blk w p 69 #[.pointer (some ⟨f, 0, none⟩), .pointer (some ⟨l, 0, none⟩), .int .i64 frames, .map (some B), .slice none 0 0, .int .i64 0])
    (hB : FrMap w Tryz.prog 3 B 0 (fun _ => none)) (h1 : 1 ≤ pages) (h2 : pages ≤ 4096) (h16 : 16 ≤ logn) (hn : 8 * pages + 80 + logn ≤ n) (hlm : logn ≤ 32768) (hf1 : 1 ≤ frames) (hf2 : frames ≤ 64)
    (hfl : ¬ RL f ∧ ¬ RD f) (hpl : ¬ RL p ∧ ¬ RD p) (hBl : ¬ RL B ∧ ¬ RD B) :
    PoolOk (Uni (fun b => b = p ∨ b = B) (fun _ => False) RL RD f) w p f l d pages frames (fun no => ⟨no, 0, zeros 480⟩) (LS.empty (8 * pages + 80) logn) 0 0 (fun _ => False) := by
  have hln : (DS.new n).now.length = n := (DS.new_facts n).1
  refine ⟨_, _, RL, RD, 0, B, .slice none 0 0, [], fun _ => none, DS.new n, 0, [], LS.empty (8 * pages + 80) logn, ?_, LSame.refl _, fun b hb => hb, fun y hy => by simp at hy⟩
  have hpf : p ≠ f := Blk.ne_ hp hfile (by decide)
  have hBf : B ≠ f := fun e => hB.blk_ne hfile e.symm
  exact {
    pool := {
      blk := hp
      map := hB
      rnd := World.ownsRow_nil _ _ _ _
      frm := fun y hy => by simp at hy
      dis := by simp [ksOf]
      rp := .inl rfl
      rB := .inr rfl
      rA := fun g hg => by simp [Value.ownBlock] at hg
      ap := fun _ _ h => h
      lt := fun b hb => by
        rcases hb with rfl | rfl
        · exact hp.lt
        · exact hB.lt
      ltq := fun _ h => h.elim
      len := by simp; omega
      f0 := hf1
      f1 := hf2
      h0 := by omega
      h1 := by omega }
    und := {
      file := hfile
      log := hwal.l
      disk := hwal.d
      still := Still.new n
      ps := PSt.new n 0 pages (by omega)
      good := LogGood.new _ _ hlm
      fit1 := Nat.le_refl _
      fit2 := by rw [hln]; exact hn
      n16 := h16
      pg1 := h1
      pg2 := h2
      ap3 := fun b hb => ⟨hwal.apart b hb, fun e => hfl.1 (e ▸ hb)⟩
      ap4 := hfl.2 }
    ap := fun b hb => by
      rcases hb with (rfl | rfl) | hb
      · exact ⟨hpl.1, hpl.2, hpf⟩
      · exact ⟨hBl.1, hBl.2, hBf⟩
      · exact hb.elim
    views := ⟨fun y hy => by simp at hy, fun y hy => by simp at hy, fun no _ _ => rfl⟩
    tm := Nat.le_refl _
    M1 := by omega
    vok := fun no hno => ⟨⟨by show no < _; omega, by show 0 < _; omega, zeros_length 480⟩, rfl⟩ }

set_option maxHeartbeats 1600000 in
set_option maxRecDepth 100000 in
theorem pgRead_bad {w : World} {p d at0 pages turn : Nat} (no : Int) (h : FileAt w p d at0 pages turn) (hno : no < 0 ∨ (pages : Int) ≤ no) :
    Calls Tryz.prog 15 #[.pointer (some ⟨p, 0, none⟩), .int .i64 no] w fun e w' => e = .returned (.tuple #[.agg #[.int .i64 0, .int .u64 0, .slice none 0 0], .int .i64 1]) ∧ Fr Nob w w' := by
  obtain ⟨gr, hgr⟩ : ∃ g, w.heap.size = g := ⟨_, rfl⟩
  have hfa : FileAt (w.alloc (.cells #[.int .i64 0, .int .u64 0, .slice none 0 0] 40)) p d at0 pages turn := h.alloc _
  have hba : Blk (w.alloc (.cells #[.int .i64 0, .int .u64 0, .slice none 0 0] 40)) gr 40 #[.int .i64 0, .int .u64 0, .slice none 0 0] := by rw [← hgr]; exact Blk.new _ _ _
  have hfr : Fr Nob w (w.alloc (.cells #[.int .i64 0, .int .u64 0, .slice none 0 0] 40)) := (Fr.refl _ w).alloc _
  obtain ⟨wa, hwa⟩ : ∃ W, w.alloc (.cells #[.int .i64 0, .int .u64 0, .slice none 0 0] 40) = W := ⟨_, rfl⟩
  rw [hwa] at hfa hba hfr
  have HBa := Lib.hid hba
  have HFr := Lib.hid hfr
  have HGr := Lib.hid hgr
  have c2 := Blk.cell hfa 2
  have lp := Blk.lt hfa
  have s0 := hba.cell 0
  have s1 := hba.cell 1
  have s2 := hba.cell 2
  have t0 := hba.frozen 0
  have t1 := hba.frozen 1
  have t2 := hba.frozen 2
  have sz := hba.lt
  simp only [List.getElem?_toArray, List.getElem?_cons_zero, List.getElem?_cons_succ] at c2 s0 s1 s2
  have HEnd : Hid (Blk (((wa.setCell ⟨gr, 0, none⟩ (.int .i64 0)).setCell ⟨gr, 1, none⟩ (.int .u64 0)).setCell ⟨gr, 2, none⟩ (.slice none 0 0)) gr 40 #[.int .i64 0, .int .u64 0, .slice none 0 0] ∧ Fr Nob w (((wa.setCell ⟨gr, 0, none⟩ (.int .i64 0)).setCell ⟨gr, 1, none⟩ (.int .u64 0)).setCell ⟨gr, 2, none⟩ (.slice none 0 0))) :=
    ⟨((hba.set_ 0 _).set_ 1 _).set_ 2 _, ((hfr.setCell (p := ⟨gr, 0, none⟩) (.inl (by show w.heap.size ≤ gr; omega)) _).setCell (p := ⟨gr, 1, none⟩) (.inl (by show w.heap.size ≤ gr; omega)) _).setCell (p := ⟨gr, 2, none⟩) (.inl (by show w.heap.size ≤ gr; omega)) _⟩
  clear h hfa hba hfr
  by_cases h1 : no < 0
  · go_enter Tryz.func15, Tryz.ntmps15
    go_wp2
    exact bodyPost_ret (results_cell_rowP rfl _ _ _ _ _ _ rfl HEnd.out.1 Tryz.underlying40 rfl page_size) rfl ⟨rfl, HEnd.out.2⟩
  · have h2 : (pages : Int) ≤ no := by omega
    go_enter Tryz.func15, Tryz.ntmps15
    go_wp2
    exact bodyPost_ret (results_cell_rowP rfl _ _ _ _ _ _ rfl HEnd.out.1 Tryz.underlying40 rfl page_size) rfl ⟨rfl, HEnd.out.2⟩
section
variable {U : Nat → Prop} {w : World} {p f l d pages : Nat} {frames : Int} {V : Nat → PgV} {L : LS} {M N : Nat} {Dt : Nat → Prop}
set_option maxHeartbeats 1600000 in
set_option maxRecDepth 100000 in
theorem PoolOk.getBad (h : PoolOk U w p f l d pages frames V L M N Dt) (no : Int) (hno : no < 0 ∨ (pages : Int) ≤ no) (h0 : -9223372036854775808 ≤ no) (h1 : no ≤ 9223372036854775807) :
    Calls Tryz.prog 9 #[.pointer (some ⟨p, 0, none⟩), .int .i64 no] w fun e w' => e = .returned (.tuple #[.agg #[.int .i64 0, .int .u64 0, .slice none 0 0], .int .i64 1]) ∧ Fr Nob w w' := by
  obtain ⟨RP, RQ, RL, RD, hand, B, rv, fs, cur, S, T, lot, L', hin0, _, _⟩ := h
  obtain ⟨gr, hgr⟩ : ∃ g, w.heap.size = g := ⟨_, rfl⟩
  have hfa : Fr Nob w (w.alloc (.cells #[.int .i64 0, .int .u64 0, .slice none 0 0] 40)) := (Fr.refl _ w).alloc _
  have hba : Blk (w.alloc (.cells #[.int .i64 0, .int .u64 0, .slice none 0 0] 40)) gr 40 #[.int .i64 0, .int .u64 0, .slice none 0 0] := by rw [← hgr]; exact Blk.new _ _ _
  have hin := hin0.new hfa
  obtain ⟨wa, hwa⟩ : ∃ W, w.alloc (.cells #[.int .i64 0, .int .u64 0, .slice none 0 0] 40) = W := ⟨_, rfl⟩
  rw [hwa] at hfa hba hin
  have HFa := Lib.hid hfa
  have HBa := Lib.hid hba
  have HGr := Lib.hid hgr
  have HMap := Lib.hid hin.pool.map
  have HHeld : Hid (heldAt (ksOf fs) no = none) := heldAt_none (fun k hk e => by
    unfold ksOf at hk
    obtain ⟨y, hy, rfl⟩ := List.mem_map.1 hk
    have := (hin.views.ok y hy).2
    have e : (y.2.x.no : Int) = no := e
    omega)
  have HRd := Lib.hid (pgRead_bad no hin.und.file hno)
  have p3 := hin.pool.blk.cell 3
  have p0 := hin.pool.blk.cell 0
  have zp := hin.pool.blk.lt
  simp only [List.getElem?_toArray, List.getElem?_cons_zero, List.getElem?_cons_succ] at p3 p0
  clear hin hin0 hfa hba hno
  go_enter Tryz.func9, Tryz.ntmps9
  go_wp2_with (with_reducible refine wpList_fr_look _ rfl _ _ _ rfl _ _ key_law Tryz.underlying67 (mapif_zero _) B _ _ rfl HMap.out no rfl (key_of _ h0 h1) ?_; rw [HHeld.out]; dsimp only [ptrOf, Option.isSome])
  refine HRd.out.mono ?_
  rintro e w2 ⟨rfl, hf2⟩
  have hb2 := HBa.out.fr hf2 (fun h => h)
  have HB2 := Lib.hid hb2
  have HF2 := Lib.hid (HFa.out.trans hf2)
  have s0 := hb2.cell 0
  have s1 := hb2.cell 1
  have s2 := hb2.cell 2
  have t0 := hb2.frozen 0
  have t1 := hb2.frozen 1
  have t2 := hb2.frozen 2
  have sz := hb2.lt
  simp only [List.getElem?_toArray, List.getElem?_cons_zero, List.getElem?_cons_succ] at s0 s1 s2
  clear hb2 hf2 HRd hwa hgr p0 p3 zp
  go_wp2
  have hg := HGr.out
  have hbE := (((HB2.out.set_ 0 (.int .i64 0)).set_ 1 (.int .u64 0)).set_ 2 (.slice none 0 0)).alloc (.cells #[.int .i64 0, .int .u64 0, .slice none 0 0] 40)
  exact bodyPost_ret (results_cell_rowP rfl _ _ _ _ _ _ rfl hbE Tryz.underlying40 rfl page_size) rfl ⟨rfl, (((HF2.out.setCell (p := ⟨gr, 0, none⟩) (.inl (by show w.heap.size ≤ gr; omega)) _).setCell (p := ⟨gr, 1, none⟩) (.inl (by show w.heap.size ≤ gr; omega)) _).setCell (p := ⟨gr, 2, none⟩) (.inl (by show w.heap.size ≤ gr; omega)) _).alloc _⟩
end
end Go.Proofs.YtccmmnacejdeoaaGreatDoor
