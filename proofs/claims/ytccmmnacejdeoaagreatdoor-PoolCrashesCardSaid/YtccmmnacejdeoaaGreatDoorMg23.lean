/-
  PoolPlain, PoolLog, PoolRep, in one text.
-/
import Derived.Test.YtccmmnacejdeoaaGreatDoorMg21
import Derived.Test.YtccmmnacejdeoaaGreatDoorMg16
import Derived.Test.YtccmmnacejdeoaaGreatDoorMg22
import Derived.Test.YtccmmnacejdeoaaGreatDoorMg02
/-
  Two things on one disk (plain): a file's sectors do not know of the sectors beside them.
-/
namespace Go.Proofs.YtccmmnacejdeoaaGreatDoor
set_option linter.unusedSimpArgs false
set_option linter.unusedVariables false
open Go.RowKit

theorem PSt.agree {now now' : List (List UInt8)} {at0 pages T : Nat} {lot : List PgV} {cur : Nat → Option PgV} (h : PSt now at0 pages T lot cur)
    (h64 : ∀ (j : Nat) s, now'[j]? = some s → s.length = 64) (hl : now'.length = now.length) (ha : ∀ j, at0 ≤ j → j < at0 + 8 * pages + 80 → now'[j]? = now[j]?) : PSt now' at0 pages T lot cur where
  s64 := h64
  len := by rw [hl]; exact h.len
  page := fun no hn => by rw [secN_congr (a := now') (b := now) (at0 + 8 * no) 8 (fun k hk => ha _ (by omega) (by omega))]; exact h.page no hn
  cok := h.cok
  head := by rw [ha _ (by omega) (by omega)]; exact h.head
  place := fun j hj => by
    obtain ⟨q, e, r⟩ := h.place j hj
    exact ⟨q, by rw [secN_congr (a := now') (b := now) (at0 + 8 * pages + 1 + 8 * j) 8 (fun k hk => ha _ (by omega) (by omega))]; exact e, r⟩
  l8 := h.l8
  lok := h.lok
  T0 := h.T0
  Tlt := h.Tlt
end Go.Proofs.YtccmmnacejdeoaaGreatDoor

/-
  The log beside a file: a Flush on a disk that nothing threatens.
-/
namespace Go.Proofs.YtccmmnacejdeoaaGreatDoor
set_option linter.unusedSimpArgs false
set_option linter.unusedVariables false
open Go.RowKit

/-- What holds of a log between calls; N: a bound on how many records it ever took. -/
structure LogGood (L : LS) (N : Nat) : Prop where
  laid : ∃ a0, L.Laid a0
  kept : L.kept ≤ L.fin
  sm : ∀ x ∈ L.l, x.1.length ≤ 2000
  nx : L.first + L.l.length = L.next
  f1 : 1 ≤ L.first
  fin : L.fin ≤ 2016 * N
  next : L.next ≤ N + 1
  some : L.kept < L.fin → 0 < L.l.length
  room : L.room ≤ 2000000
  N1 : N ≤ 400000
  turn : L.turn < L.first
/-- Two logs that are the same but for what lasts. -/
structure LSame (L L' : LS) : Prop where
  start : L'.start = L.start
  n : L'.n = L.n
  first : L'.first = L.first
  next : L'.next = L.next
  l : L'.l = L.l
  fin : L'.fin = L.fin
  room : L'.room = L.room
  life : L'.life = L.life
  turn : L'.turn = L.turn
theorem LSame.refl (L : LS) : LSame L L := ⟨rfl, rfl, rfl, rfl, rfl, rfl, rfl, rfl, rfl⟩
theorem LSame.trans {A B C : LS} (h : LSame A B) (k : LSame B C) : LSame A C :=
  ⟨k.start.trans h.start, k.n.trans h.n, k.first.trans h.first, k.next.trans h.next, k.l.trans h.l, k.fin.trans h.fin, k.room.trans h.room, k.life.trans h.life, k.turn.trans h.turn⟩
theorem LSame.flushed' (L : LS) : LSame L L.flushed' := ⟨rfl, rfl, rfl, rfl, rfl, rfl, rfl, rfl, rfl⟩
theorem LogGood.flushed' {L : LS} {N : Nat} (h : LogGood L N) : LogGood L.flushed' N := by
  obtain ⟨a0, ha⟩ := h.laid
  exact { h with
    laid := ⟨a0, ha.at_, ha.fin⟩
    kept := Nat.le_refl _
    some := fun hk => absurd hk (by show ¬ L.fin < L.fin; omega) }
theorem LogGood.add {L : LS} {N : Nat} (h : LogGood L N) (r : List UInt8) (hr : r.length ≤ 2000) (hN : N + 1 ≤ 400000) : LogGood (L.add r) (N + 1) := by
  obtain ⟨a0, ha⟩ := h.laid
  have h1 := h.fin
  have h2 := h.next
  have h3 := h.nx
  have h4 := h.kept
  have h5 := h.room
  exact {
    laid := ⟨a0, ha.add r⟩
    kept := by show L.kept ≤ L.fin + (16 + r.length); omega
    sm := fun x hx => by
      have hx : x ∈ L.l ++ [(r, L.fin)] := hx
      rcases List.mem_append.1 hx with hx | hx
      · exact h.sm x hx
      · rw [List.mem_singleton] at hx; subst hx; exact hr
    nx := by show L.first + (L.l ++ [(r, L.fin)]).length = L.next + 1; rw [List.length_append, List.length_singleton]; omega
    f1 := h.f1
    fin := by show L.fin + (16 + r.length) ≤ _; omega
    next := by show L.next + 1 ≤ _; omega
    some := fun _ => by show 0 < (L.l ++ [(r, L.fin)]).length; rw [List.length_append, List.length_singleton]; omega
    room := by show L.room - (16 + r.length) ≤ _; omega
    N1 := hN
    turn := h.turn }
theorem LogGood.more {L : LS} {N M : Nat} (h : LogGood L N) (hM : N ≤ M) (hm : M ≤ 400000) : LogGood L M :=
  { h with fin := by have := h.fin; omega
           next := by have := h.next; omega
           N1 := hm }
theorem LogGood.new (at_ n : Nat) (hn : n ≤ 32768) : LogGood (LS.empty at_ n) 0 where
  laid := ⟨0, fun i hi => absurd hi (by show ¬ i < 0; omega), rfl⟩
  kept := Nat.le_refl _
  sm := fun x hx => by
    have hx : x ∈ ([] : List (List UInt8 × Nat)) := hx
    simp at hx
  nx := rfl
  f1 := Nat.le_refl _
  fin := Nat.le_refl _
  next := Nat.le_refl _
  some := fun hk => absurd hk (by show ¬ (0 : Nat) < 0; omega)
  room := by show 48 * ((n : Int) - 8) ≤ _; omega
  N1 := by omega
  turn := by show 0 < 1; omega

/-- What lies outside the log's sectors. -/
theorem place_in (L : LS) (hn : 16 ≤ L.n) (x : Nat) : L.start ≤ L.place x ∧ L.place x < L.start + L.n := by
  have := Nat.mod_lt x (show 0 < L.n - 2 by omega)
  unfold LS.place
  omega
theorem getD_get {l m : List (List UInt8)} {j : Nat} (h : l.length = m.length) (e : l.getD j [] = m.getD j []) : l[j]? = m[j]? := by
  rw [List.getD_eq_getElem?_getD, List.getD_eq_getElem?_getD] at e
  by_cases hj : j < l.length
  · rw [List.getElem?_eq_getElem hj, List.getElem?_eq_getElem (by omega)] at e ⊢
    exact congrArg some e
  · rw [List.getElem?_eq_none (by omega), List.getElem?_eq_none (by omega)]

/-- A Flush, whatever there is to write. -/
theorem Flush_still {w : World} {p d N : Nat} {L : LS} {S : DS} {R RD : Nat → Prop} (h : WalIn w p d L S R RD) (hg : LogGood L N) (hst : Still S) (hn : 16 ≤ L.n) :
    Calls Tryz.prog 50 #[.pointer (some ⟨p, 0, none⟩)] w fun e w' => e = .returned (.int .i64 0) ∧ ∃ L' S' RD', WalIn w' p d L' S' R RD' ∧ LSame L L' ∧ LogGood L' N ∧ Still S' ∧ S'.now.length = S.now.length ∧ (∀ j, (j < L.start ∨ L.start + L.n ≤ j) → S'.now[j]? = S.now[j]?) ∧ (∀ b, RD' b → RD b ∨ w.heap.size ≤ b) ∧ Fr (fun b => R b ∨ RD b) w w' := by
  by_cases hk : L.kept = L.fin
  · refine (Flush_none h hst.calm.dead hk).mono ?_
    rintro e w' ⟨rfl, hf⟩
    exact ⟨rfl, L, S, RD, ⟨h.l.new hf, h.d.new hf, h.apart, h.fits⟩, LSame.refl L, hg, hst, rfl, fun _ _ => rfl, fun b hb => .inl hb, hf.mono (fun _ _ h => h.elim)⟩
  · have hkl := hg.kept
    obtain ⟨a0, ha⟩ := hg.laid
    have hN := hg.N1
    have hfin := hg.fin
    have hnx := hg.next
    have h1 := hg.nx
    have h2 := hg.f1
    have hpos := hg.some (by omega)
    have hcalm := hst.calm
    refine (Flush_some h ha (by omega) hpos (by omega) hg.sm (by omega) (by rw [hst.waits]; simp) (by omega) (by omega) (by omega) (fun j _ => (LS.wrote_calm L _ _ hcalm j).dead)).mono ?_
    rintro e w' ⟨rfl, hl, ⟨RD', hd', hRD'⟩, hf⟩
    have hc2 := LS.wrote_calm L (L.from0 a0 / 48) (L.wbs a0) hcalm (secs (L.wbs a0).length)
    have e1 : (L.wrote S (L.from0 a0 / 48) (L.wbs a0) (secs (L.wbs a0).length)).flushed.now = (L.wrote S (L.from0 a0 / 48) (L.wbs a0) (secs (L.wbs a0).length)).now := by rw [hc2.flushed_eq]
    have e2 : (L.wrote S (L.from0 a0 / 48) (L.wbs a0) (secs (L.wbs a0).length)).flushed.waits = [] := by rw [hc2.flushed_eq]
    have e3 : (L.wrote S (L.from0 a0 / 48) (L.wbs a0) (secs (L.wbs a0).length)).flushed.now.length = S.now.length := by rw [e1, LS.wrote_length]
    refine ⟨rfl, L.flushed', _, RD', ⟨hl, hd', fun b hb hd => ?_, by rw [e3]; exact h.fits⟩, LSame.flushed' L, hg.flushed', ⟨hc2.flushed, e2⟩, e3, fun j hj => ?_, hRD', hf⟩
    · rcases hRD' b hd with h' | h'
      · exact h.apart b hb h'
      · have := h.l.lt hb; omega
    · refine getD_get e3 ?_
      rw [e1]
      exact LS.wrote_other L _ _ hcalm _ j (fun i _ => by have := place_in L hn (L.from0 a0 / 48 + i); omega)
end Go.Proofs.YtccmmnacejdeoaaGreatDoor

/-
  How a pool lies in memory (PoolAt), and what its pages are (Views).
-/
namespace Go.Proofs.YtccmmnacejdeoaaGreatDoor
set_option linter.unusedSimpArgs false
set_option linter.unusedVariables false
open Go.RowKit Go.Maps

/-- A page that is held. -/
structure Frm where
  x : PgV
  dirty : Bool
  used : Bool
/-- A frame in block b; its bytes in a block of RQ. -/
def FrmAt (RP RQ : Nat → Prop) (w : World) (b : Nat) (m : Frm) : Prop :=
  RP b ∧ ∃ kb ko c, RQ kb ∧ Blk w b 75 #[.int .i64 m.x.no, .int .u64 m.x.lsn, .slice (some ⟨kb, ko, none⟩) 480 c, .bool m.dirty, .bool m.used] ∧ Bsl w (some ⟨kb, ko, none⟩) c m.x.d
section
variable {RP RQ RP' RQ' F : Nat → Prop} {w w' : World} {b : Nat} {m m' : Frm}
theorem Bsl.fr {A : Option Addr} {cp : Nat} {l : List UInt8} (h : Bsl w A cp l) (hf : Fr F w w') (hd : ∀ a, A = some a → ¬ F a.block) : Bsl w' A cp l :=
  ⟨h.h.fr hf hd, h.le, fun a ha => Nat.lt_of_lt_of_le (h.lt a ha) hf.size⟩
theorem FrmAt.fr (h : FrmAt RP RQ w b m) (hf : Fr F w w') (hb : ¬ F b) (hd : ∀ k, RQ k → ¬ F k) : FrmAt RP RQ w' b m := by
  obtain ⟨h1, kb, ko, c, h2, h3, h4⟩ := h
  exact ⟨h1, kb, ko, c, h2, h3.fr hf hb, h4.fr hf (fun a ha => by injection ha with ha; subst ha; exact hd _ h2)⟩
theorem FrmAt.more (h : FrmAt RP RQ w b m) (hp : ∀ k, RP k → RP' k) (hq : ∀ k, RQ k → RQ' k) : FrmAt RP' RQ' w b m := by
  obtain ⟨h1, kb, ko, c, h2, h3⟩ := h
  exact ⟨hp _ h1, kb, ko, c, hq _ h2, h3⟩
theorem FrmAt.blk (h : FrmAt RP RQ w b m) : ∃ cs, Blk w b 75 cs := by
  obtain ⟨_, _, _, _, _, h3, _⟩ := h
  exact ⟨_, h3⟩
theorem FrmAt.no_inj (h : FrmAt RP RQ w b m) (k : FrmAt RP RQ w b m') : m.x.no = m'.x.no := by
  obtain ⟨_, _, _, _, _, h3, _⟩ := h
  obtain ⟨_, _, _, _, _, k3, _⟩ := k
  have := (h3.cell 0).symm.trans (k3.cell 0)
  simp only [List.getElem?_toArray, List.getElem?_cons_zero, Option.some.injEq, Value.int.injEq, true_and] at this
  omega
end

/-! ### which page is held where -/
def ksOf (fs : List (Nat × Frm)) : List (Nat × Nat) := fs.map fun y => (y.1, y.2.x.no)
def heldAt : List (Nat × Nat) → Int → Option Nat
  | [], _ => none
  | k :: l, x => if (k.2 : Int) = x then some k.1 else heldAt l x
theorem heldAt_none {ks : List (Nat × Nat)} {x : Int} (h : ∀ k ∈ ks, (k.2 : Int) ≠ x) : heldAt ks x = none := by
  induction ks with
  | nil => rfl
  | cons k l ih =>
    unfold heldAt
    rw [if_neg (h k (List.mem_cons_self ..))]
    exact ih (fun y hy => h y (List.mem_cons_of_mem _ hy))
theorem heldAt_is {ks : List (Nat × Nat)} {x : Int} {b : Nat} (h : heldAt ks x = some b) : ∃ (i n : Nat), ks[i]? = some (b, n) ∧ (n : Int) = x := by
  induction ks with
  | nil => cases h
  | cons k l ih =>
    unfold heldAt at h
    split at h
    · rename_i e
      injection h with h
      exact ⟨0, k.2, by rw [← h]; rfl, e⟩
    · obtain ⟨i, n, e1, e2⟩ := ih h
      exact ⟨i + 1, n, e1, e2⟩
theorem heldAt_at {ks : List (Nat × Nat)} (hd : (ks.map (·.2)).Nodup) {i b n : Nat} (h : ks[i]? = some (b, n)) : heldAt ks n = some b := by
  induction ks generalizing i with
  | nil => simp at h
  | cons k l ih =>
    rw [List.map_cons, List.nodup_cons] at hd
    unfold heldAt
    cases i with
    | zero =>
      simp only [List.getElem?_cons_zero, Option.some.injEq] at h
      subst h
      rw [if_pos rfl]
    | succ i =>
      rw [List.getElem?_cons_succ] at h
      rw [if_neg (fun e => hd.1 (List.mem_map.2 ⟨(b, n), List.mem_of_getElem? h, by simp only; omega⟩))]
      exact ih hd.2 h
theorem heldAt_append {ks : List (Nat × Nat)} {b n : Nat} (h : ∀ k ∈ ks, k.2 ≠ n) : heldAt (ks ++ [(b, n)]) = upd (heldAt ks) n (some b) := by
  funext x
  unfold upd
  induction ks with
  | nil =>
    show (if (n : Int) = x then some b else none) = _
    by_cases e : x = n
    · rw [if_pos e.symm, if_pos e]
    · rw [if_neg (fun h => e h.symm), if_neg e]; rfl
  | cons k l ih =>
    have h1 := h k (List.mem_cons_self ..)
    rw [List.cons_append]
    unfold heldAt
    by_cases e : (k.2 : Int) = x
    · rw [if_pos e, if_pos e, if_neg (by omega)]
    · rw [if_neg e, if_neg e]
      exact ih (fun y hy => h y (List.mem_cons_of_mem _ hy))
theorem heldAt_erase {ks : List (Nat × Nat)} (hd : (ks.map (·.2)).Nodup) {i b n : Nat} (h : ks[i]? = some (b, n)) : heldAt (ks.eraseIdx i) = upd (heldAt ks) n none := by
  funext x
  induction ks generalizing i with
  | nil => simp at h
  | cons k l ih =>
    rw [List.map_cons, List.nodup_cons] at hd
    cases i with
    | zero =>
      simp only [List.getElem?_cons_zero, Option.some.injEq] at h
      subst h
      show heldAt l x = _
      unfold upd
      by_cases e : x = n
      · rw [if_pos e, e]
        exact heldAt_none (fun k hk e2 => hd.1 (List.mem_map.2 ⟨k, hk, by simp only; omega⟩))
      · rw [if_neg e]
        conv => rhs; unfold heldAt
        rw [if_neg (fun h => e h.symm)]
    | succ i =>
      rw [List.getElem?_cons_succ] at h
      have hne : k.2 ≠ n := fun e => hd.1 (List.mem_map.2 ⟨(b, n), List.mem_of_getElem? h, e.symm⟩)
      have := ih hd.2 h
      unfold upd at this ⊢
      show heldAt (k :: l.eraseIdx i) x = _
      unfold heldAt
      by_cases e : (k.2 : Int) = x
      · rw [if_pos e, if_pos e, if_neg (by omega)]
      · rw [if_neg e, if_neg e]; exact this
theorem ksOf_get {fs : List (Nat × Frm)} {i b n : Nat} (h : (ksOf fs)[i]? = some (b, n)) : ∃ m, fs[i]? = some (b, m) ∧ m.x.no = n := by
  unfold ksOf at h
  rw [List.getElem?_map] at h
  obtain ⟨y, hy, e⟩ := Option.map_eq_some_iff.1 h
  simp only [Prod.mk.injEq] at e
  obtain ⟨e1, e2⟩ := e
  subst e1 e2
  exact ⟨y.2, hy, rfl⟩
theorem ksOf_of {fs : List (Nat × Frm)} {i b : Nat} {m : Frm} (h : fs[i]? = some (b, m)) : (ksOf fs)[i]? = some (b, m.x.no) := by
  unfold ksOf
  rw [List.getElem?_map, h]; rfl
theorem ksOf_set {fs : List (Nat × Frm)} {i b : Nat} {m m' : Frm} (h : fs[i]? = some (b, m)) (hn : m'.x.no = m.x.no) : ksOf (fs.set i (b, m')) = ksOf fs := by
  refine List.ext_getElem? (fun j => ?_)
  unfold ksOf
  rw [List.getElem?_map, List.getElem?_map, List.getElem?_set]
  by_cases e : i = j
  · subst e
    rw [if_pos rfl, if_pos (List.getElem?_eq_some_iff.1 h).1, h]
    simp [hn]
  · rw [if_neg e]
theorem ksOf_append (fs : List (Nat × Frm)) (b : Nat) (m : Frm) : ksOf (fs ++ [(b, m)]) = ksOf fs ++ [(b, m.x.no)] := by simp [ksOf]
theorem ksOf_erase (fs : List (Nat × Frm)) (i : Nat) : ksOf (fs.eraseIdx i) = (ksOf fs).eraseIdx i := by
  unfold ksOf
  induction fs generalizing i with
  | nil => rfl
  | cons y l ih => cases i with
    | zero => rfl
    | succ i => simp only [List.eraseIdx_cons_succ, List.map_cons, ih]
def nosOf (fs : List (Nat × Frm)) : List Value := (ksOf fs).map fun k => .int .i64 k.2

/-- A pool: its own blocks in RP, its pages' bytes in RQ. -/
structure PoolAt (RP RQ : Nat → Prop) (w : World) (p f l : Nat) (frames hand : Int) (B : Nat) (rv : Value) (fs : List (Nat × Frm)) : Prop where
  blk : Blk w p 69 #[.pointer (some ⟨f, 0, none⟩), .pointer (some ⟨l, 0, none⟩), .int .i64 frames, .map (some B), rv, .int .i64 hand]
  map : FrMap w Tryz.prog 3 B fs.length (heldAt (ksOf fs))
  rnd : w.ownsRow 0 3 1 rv fs.length (nosOf fs)
  frm : ∀ y ∈ fs, FrmAt RP RQ w y.1 y.2
  dis : ((ksOf fs).map (·.2)).Nodup
  rp : RP p
  rB : RP B
  rA : ∀ g, rv.ownBlock = some g → RP g
  ap : ∀ b, RP b → ¬ RQ b
  lt : ∀ b, RP b → b < w.heap.size
  ltq : ∀ b, RQ b → b < w.heap.size
  len : (fs.length : Int) ≤ frames
  f0 : 1 ≤ frames
  f1 : frames ≤ 64
  h0 : 0 ≤ hand
  h1 : hand ≤ 64

theorem FrMap.blk_ne {w : World} {P : Program} {k : TypeId} {B n : Nat} {f : Int → Option Nat} (h : FrMap w P k B n f) {g : Nat} {t : TypeId} {cs : Array Value} (hg : Blk w g t cs) : g ≠ B := by
  obtain ⟨D, ⟨es, clock, hb, _⟩, _⟩ := h
  rintro rfl
  unfold Blk at hg
  rw [hg] at hb
  cases hb
theorem own_ne_of {w : World} {base : Nat} {e : TypeId} {size n : Nat} {v : Value} {xs : List Value} {g g' : Nat} {t : TypeId} {cs : Array Value} (h : w.ownsRow base e size v n xs) (hv : v.ownBlock = some g') (hg : Blk w g t cs) (hne : t ≠ e) : g ≠ g' := by
  obtain ⟨cs', hc⟩ := own_blk h hv
  exact Blk.ne_ hg hc hne
theorem own_ne_map {w : World} {base : Nat} {e : TypeId} {size n : Nat} {v : Value} {xs : List Value} {g' : Nat} {P : Program} {k : TypeId} {B m : Nat} {f : Int → Option Nat} (h : w.ownsRow base e size v n xs) (hv : v.ownBlock = some g') (hm : FrMap w P k B m f) : g' ≠ B := by
  obtain ⟨cs', hc⟩ := own_blk h hv
  exact hm.blk_ne hc
section
variable {RP RQ RP' RQ' F : Nat → Prop} {w w' : World} {p f l B : Nat} {frames hand : Int} {rv : Value} {fs : List (Nat × Frm)}
theorem PoolAt.fr (h : PoolAt RP RQ w p f l frames hand B rv fs) (hf : Fr F w w') (hp : ∀ b, RP b → ¬ F b) (hq : ∀ b, RQ b → ¬ F b) : PoolAt RP RQ w' p f l frames hand B rv fs :=
  { h with
    blk := h.blk.fr hf (hp _ h.rp)
    map := h.map.fr hf (hp _ h.rB)
    rnd := own_fr h.rnd hf (fun g hg => hp _ (h.rA g hg))
    frm := fun y hy => (h.frm y hy).fr hf (hp _ (h.frm y hy).1) hq
    lt := fun b hb => Nat.lt_of_lt_of_le (h.lt b hb) hf.size
    ltq := fun b hb => Nat.lt_of_lt_of_le (h.ltq b hb) hf.size }
theorem PoolAt.new (h : PoolAt RP RQ w p f l frames hand B rv fs) (hf : Fr Nob w w') : PoolAt RP RQ w' p f l frames hand B rv fs := h.fr hf (fun _ _ h => h) (fun _ _ h => h)
theorem PoolAt.more (h : PoolAt RP RQ w p f l frames hand B rv fs) (hp : ∀ b, RP b → RP' b) (hq : ∀ b, RQ b → RQ' b) (ha : ∀ b, RP' b → ¬ RQ' b) (hl : ∀ b, RP' b → b < w.heap.size) (hm : ∀ b, RQ' b → b < w.heap.size) : PoolAt RP' RQ' w p f l frames hand B rv fs :=
  { h with
    frm := fun y hy => (h.frm y hy).more hp hq
    rp := hp _ h.rp
    rB := hp _ h.rB
    rA := fun g hg => hp _ (h.rA g hg)
    ap := ha
    lt := hl
    ltq := hm }
theorem PoolAt.apart (h : PoolAt RP RQ w p f l frames hand B rv fs) {i j : Nat} {y z : Nat × Frm} (hi : fs[i]? = some y) (hj : fs[j]? = some z) (e : y.2.x.no = z.2.x.no) : i = j := by
  have d := h.dis
  have ai : ((ksOf fs).map (·.2))[i]? = some y.2.x.no := by rw [List.getElem?_map, ksOf_of (b := y.1) (m := y.2) hi]; rfl
  have aj : ((ksOf fs).map (·.2))[j]? = some z.2.x.no := by rw [List.getElem?_map, ksOf_of (b := z.1) (m := z.2) hj]; rfl
  have hi' := (List.getElem?_eq_some_iff.1 ai).1
  have hj' := (List.getElem?_eq_some_iff.1 aj).1
  exact (List.getElem?_inj hi' d).1 (by rw [ai, aj, e])
/-- One frame changes, not its number. -/
theorem PoolAt.setF (h : PoolAt RP RQ w p f l frames hand B rv fs) {i b : Nat} {m m' : Frm} (hi : fs[i]? = some (b, m)) (hf : Fr (fun k => k = b) w w') (hn : m'.x.no = m.x.no) (hm : FrmAt RP RQ w' b m') : PoolAt RP RQ w' p f l frames hand B rv (fs.set i (b, m')) := by
  have hb := h.frm _ (List.mem_of_getElem? hi)
  obtain ⟨cs, hcs⟩ := hb.blk
  have e := ksOf_set hi hn
  exact { h with
    blk := h.blk.fr hf (Blk.ne_ h.blk hcs (by decide))
    map := by rw [e, List.length_set]; exact h.map.fr hf (fun e2 => h.map.blk_ne hcs e2.symm)
    rnd := by
      unfold nosOf
      rw [e, List.length_set]
      exact own_fr h.rnd hf (fun g hg e2 => own_ne_of h.rnd hg hcs (by decide) e2.symm)
    frm := fun y hy => by
      obtain ⟨j, hj⟩ := List.mem_iff_getElem?.1 hy
      rw [List.getElem?_set] at hj
      split at hj
      · split at hj
        · injection hj with hj; subst hj; exact hm
        · cases hj
      · rename_i hne
        refine (h.frm y (List.mem_of_getElem? hj)).fr hf (fun e2 => hne ?_) (fun k hk e2 => h.ap b hb.1 (e2 ▸ hk))
        have e2 : y.1 = b := e2
        have hy' := h.frm y (List.mem_of_getElem? hj)
        rw [e2] at hy'
        exact h.apart hi hj (FrmAt.no_inj hb hy')
    dis := by rw [e]; exact h.dis
    lt := fun k hk => Nat.lt_of_lt_of_le (h.lt k hk) hf.size
    ltq := fun k hk => Nat.lt_of_lt_of_le (h.ltq k hk) hf.size
    len := by rw [List.length_set]; exact h.len }
/-- The hand moves. -/
theorem PoolAt.hand_ (h : PoolAt RP RQ w p f l frames hand B rv fs) (hand' : Int) (a0 : 0 ≤ hand') (a1 : hand' ≤ 64) : PoolAt RP RQ (w.setCell ⟨p, 5, none⟩ (.int .i64 hand')) p f l frames hand' B rv fs := by
  have hf : Fr (fun k => k = p) w (w.setCell ⟨p, 5, none⟩ (.int .i64 hand')) := (Fr.refl (fun k => k = p) w).setCell (p := ⟨p, 5, none⟩) (.inr rfl) _
  exact { h with
    blk := h.blk.set_ 5 _
    map := h.map.fr hf (fun e => h.map.blk_ne h.blk e.symm)
    rnd := own_fr h.rnd hf (fun g hg e => own_ne_of h.rnd hg h.blk (by decide) e.symm)
    frm := fun y hy => (h.frm y hy).fr hf (fun e => by
      obtain ⟨cs, hcs⟩ := (h.frm y hy).blk
      exact Blk.ne_ h.blk hcs (by decide) e.symm) (fun k hk e => h.ap p h.rp (e ▸ hk))
    lt := fun k hk => Nat.lt_of_lt_of_le (h.lt k hk) hf.size
    ltq := fun k hk => Nat.lt_of_lt_of_le (h.ltq k hk) hf.size
    h0 := a0
    h1 := a1 }
end

/-! ### what the pages are -/
def pgOf (c : Option PgV) (no : Nat) : PgV := match c with
  | none => ⟨no, 0, zeros 480⟩
  | some x => x
/-- The pages V: what is held is as V has it; what is not held, or clean, stands so in the file. -/
structure Views (fs : List (Nat × Frm)) (cur : Nat → Option PgV) (pages : Nat) (V : Nat → PgV) : Prop where
  ok : ∀ y ∈ fs, y.2.x.Ok ∧ y.2.x.no < pages
  held : ∀ y ∈ fs, y.2.x = V y.2.x.no
  file : ∀ no, no < pages → (∀ y ∈ fs, y.2.x.no = no → y.2.dirty = false) → pgOf (cur no) no = V no
section
variable {fs : List (Nat × Frm)} {cur : Nat → Option PgV} {pages : Nat} {V : Nat → PgV}
/-- Frames that differ in what was used alone. -/
theorem Views.used (h : Views fs cur pages V) {i b : Nat} {m : Frm} (hi : fs[i]? = some (b, m)) (u : Bool) : Views (fs.set i (b, { m with used := u })) cur pages V := by
  have hm : ∀ y ∈ fs.set i (b, { m with used := u }), ∃ z ∈ fs, z.2.x = y.2.x ∧ z.2.dirty = y.2.dirty := fun y hy => by
    rcases List.mem_or_eq_of_mem_set hy with hy | hy
    · exact ⟨y, hy, rfl, rfl⟩
    · subst hy; exact ⟨_, List.mem_of_getElem? hi, rfl, rfl⟩
  refine ⟨fun y hy => ?_, fun y hy => ?_, fun no hno hc => h.file no hno (fun y hy he => ?_)⟩
  · obtain ⟨z, hz, e, _⟩ := hm y hy; rw [← e]; exact h.ok z hz
  · obtain ⟨z, hz, e, _⟩ := hm y hy; rw [← e]; exact h.held z hz
  · obtain ⟨j, hj⟩ := List.mem_iff_getElem?.1 hy
    by_cases e : i = j
    · subst e
      rw [hi] at hj
      injection hj with hj
      subst hj
      exact hc (b, { m with used := u }) (List.mem_of_getElem? (i := i) (by rw [List.getElem?_set, if_pos rfl, if_pos (List.getElem?_eq_some_iff.1 hi).1])) he
    · exact hc y (List.mem_of_getElem? (i := j) (by rw [List.getElem?_set, if_neg e]; exact hj)) he
/-- A frame that was written. -/
theorem Views.wrote (h : Views fs cur pages V) {i b : Nat} {m : Frm} (hi : fs[i]? = some (b, m)) (cur' : Nat → Option PgV) (hc : ∀ no, cur' no = if no = m.x.no then some m.x else cur no) : Views (fs.set i (b, { m with dirty := false })) cur' pages V := by
  have hm : ∀ y ∈ fs.set i (b, { m with dirty := false }), ∃ z ∈ fs, z.2.x = y.2.x := fun y hy => by
    rcases List.mem_or_eq_of_mem_set hy with hy | hy
    · exact ⟨y, hy, rfl⟩
    · subst hy; exact ⟨_, List.mem_of_getElem? hi, rfl⟩
  refine ⟨fun y hy => ?_, fun y hy => ?_, fun no hno hcl => ?_⟩
  · obtain ⟨z, hz, e⟩ := hm y hy; rw [← e]; exact h.ok z hz
  · obtain ⟨z, hz, e⟩ := hm y hy; rw [← e]; exact h.held z hz
  · rw [hc]
    by_cases e : no = m.x.no
    · subst e
      rw [if_pos rfl]
      exact h.held _ (List.mem_of_getElem? hi)
    · rw [if_neg e]
      refine h.file no hno (fun y hy he => ?_)
      obtain ⟨j, hj⟩ := List.mem_iff_getElem?.1 hy
      by_cases e2 : i = j
      · subst e2
        rw [hi] at hj
        injection hj with hj
        subst hj
        exact absurd he.symm e
      · exact hcl y (List.mem_of_getElem? (i := j) (by rw [List.getElem?_set, if_neg e2]; exact hj)) he
/-- A clean frame that is let go. -/
theorem Views.drop (h : Views fs cur pages V) {i b : Nat} {m : Frm} (hi : fs[i]? = some (b, m)) (hd : m.dirty = false) : Views (fs.eraseIdx i) cur pages V := by
  refine ⟨fun y hy => h.ok y (List.mem_of_mem_eraseIdx hy), fun y hy => h.held y (List.mem_of_mem_eraseIdx hy), fun no hno hc => h.file no hno (fun y hy he => ?_)⟩
  obtain ⟨j, hj⟩ := List.mem_iff_getElem?.1 hy
  by_cases e : j = i
  · subst e
    rw [hi] at hj
    injection hj with hj
    subst hj
    exact hd
  · exact hc y (List.mem_eraseIdx_iff_getElem?.2 ⟨j, e, hj⟩) he
/-- A page that was read is held. -/
theorem Views.hold (h : Views fs cur pages V) {no : Nat} (hno : no < pages) (hn : ∀ y ∈ fs, y.2.x.no ≠ no) (b : Nat) (x : PgV) (hx : x = V no) (hx1 : x.no = no) (hok : x.Ok) : Views (fs ++ [(b, ⟨x, false, true⟩)]) cur pages V := by
  refine ⟨fun y hy => ?_, fun y hy => ?_, fun k hk hc => ?_⟩
  · rcases List.mem_append.1 hy with hy | hy
    · exact h.ok y hy
    · rw [List.mem_singleton] at hy; subst hy; exact ⟨hok, by show x.no < _; omega⟩
  · rcases List.mem_append.1 hy with hy | hy
    · exact h.held y hy
    · rw [List.mem_singleton] at hy; subst hy; show x = V x.no; rw [hx1]; exact hx
  · exact h.file k hk (fun y hy he => hc y (List.mem_append_left _ hy) he)
/-- A page that was put: it was held .. -/
theorem Views.put (h : Views fs cur pages V) {i b : Nat} {m : Frm} (hi : fs[i]? = some (b, m)) (hap : ∀ (j : Nat) y, fs[j]? = some y → y.2.x.no = m.x.no → j = i) (x : PgV) (hx1 : x.no = m.x.no) (hok : x.Ok) : Views (fs.set i (b, ⟨x, true, true⟩)) cur pages (fun no => if no = x.no then x else V no) := by
  have hm0 := h.ok _ (List.mem_of_getElem? hi)
  have hin : (b, (⟨x, true, true⟩ : Frm)) ∈ fs.set i (b, ⟨x, true, true⟩) := List.mem_of_getElem? (i := i) (by rw [List.getElem?_set, if_pos rfl, if_pos (List.getElem?_eq_some_iff.1 hi).1])
  have hcs : ∀ y ∈ fs.set i (b, ⟨x, true, true⟩), y = (b, ⟨x, true, true⟩) ∨ (y ∈ fs ∧ y.2.x.no ≠ x.no) := fun y hy => by
    obtain ⟨j, hj⟩ := List.mem_iff_getElem?.1 hy
    rw [List.getElem?_set] at hj
    split at hj
    · split at hj
      · injection hj with hj; exact .inl hj.symm
      · cases hj
    · rename_i hne
      exact .inr ⟨List.mem_of_getElem? hj, fun e => hne (hap j y hj (e.trans hx1)).symm⟩
  refine ⟨fun y hy => ?_, fun y hy => ?_, fun k hk hc => ?_⟩
  · rcases hcs y hy with rfl | ⟨hy, _⟩
    · exact ⟨hok, by show x.no < _; rw [hx1]; exact hm0.2⟩
    · exact h.ok y hy
  · rcases hcs y hy with rfl | ⟨hy, hne⟩
    · show x = if x.no = x.no then x else _; rw [if_pos rfl]
    · rw [if_neg hne]; exact h.held y hy
  · by_cases e : k = x.no
    · have := hc _ hin e.symm
      cases this
    · rw [if_neg e]
      refine h.file k hk (fun y hy he => ?_)
      obtain ⟨j, hj⟩ := List.mem_iff_getElem?.1 hy
      by_cases e2 : i = j
      · subst e2
        rw [hi] at hj
        injection hj with hj
        subst hj
        exact absurd (he.symm.trans hx1.symm) e
      · exact hc y (List.mem_of_getElem? (i := j) (by rw [List.getElem?_set, if_neg e2]; exact hj)) he
/-- .. or not. -/
theorem Views.putNew (h : Views fs cur pages V) (b : Nat) (x : PgV) (hno : x.no < pages) (hn : ∀ y ∈ fs, y.2.x.no ≠ x.no) (hok : x.Ok) : Views (fs ++ [(b, ⟨x, true, true⟩)]) cur pages (fun no => if no = x.no then x else V no) := by
  refine ⟨fun y hy => ?_, fun y hy => ?_, fun k hk hc => ?_⟩
  · rcases List.mem_append.1 hy with hy | hy
    · exact h.ok y hy
    · rw [List.mem_singleton] at hy; subst hy; exact ⟨hok, hno⟩
  · rcases List.mem_append.1 hy with hy | hy
    · rw [if_neg (hn y hy)]; exact h.held y hy
    · rw [List.mem_singleton] at hy; subst hy; show x = if x.no = x.no then x else _; rw [if_pos rfl]
  · by_cases e : k = x.no
    · have := hc (b, ⟨x, true, true⟩) (List.mem_append_right _ (List.mem_singleton.2 rfl)) e.symm
      cases this
    · rw [if_neg e]
      exact h.file k hk (fun y hy he => hc y (List.mem_append_left _ hy) he)
end
end Go.Proofs.YtccmmnacejdeoaaGreatDoor
