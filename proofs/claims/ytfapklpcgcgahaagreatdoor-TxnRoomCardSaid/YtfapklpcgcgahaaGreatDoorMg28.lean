/-
  TxnRow, TxnRep, TxnLay, in one text.
-/
import Derived.Test.YtfapklpcgcgahaaGreatDoorMg03
import Derived.Laws.OwnMore
import Derived.Test.YtfapklpcgcgahaaGreatDoorMg27
import Derived.Test.YtfapklpcgcgahaaGreatDoorMg07
import Derived.Test.YtfapklpcgcgahaaGreatDoorMg22
/-
  Rows that are grown and cut: bytes put one behind the other, a stack's top taken off.
-/
namespace Go.Proofs.YtfapklpcgcgahaaGreatDoor
set_option linter.unusedSimpArgs false
set_option linter.unusedVariables false
open Go.RowKit

section
variable {w : World} {base : Nat} {e : TypeId} {size n : Nat} {xs : List Value}
/-- The first m of a row. -/
theorem own_take {A : Option Addr} {c : Nat} (h : w.ownsRow base e size (.slice A n c) n xs) (m : Nat) (hm : m ≤ n) : w.ownsRow base e size (.slice A m c) m (xs.take (m * size)) := by
  obtain ⟨hl, h⟩ := h
  have hmn : m * size ≤ n * size := Nat.mul_le_mul_right _ hm
  refine ⟨by rw [List.length_take, hl]; omega, ?_⟩
  rcases h with ⟨e1, e2⟩ | ⟨g, cap, cur, e1, h1, h2, h3, h4, h5, h6⟩
  · injection e1 with a1 a2 a3
    subst a1 a3 e2
    exact .inl ⟨by rw [Nat.le_zero.1 hm], Nat.le_zero.1 hm⟩
  · injection e1 with a1 a2 a3
    subst a1 a3
    refine .inr ⟨g, c, cur, rfl, h1, h2, by omega, h4, h5, ?_⟩
    rw [← h6, List.take_take, Nat.min_eq_left hmn]
/-- A row of bytes. -/
def RowB (w : World) (base : Nat) (v : Value) (l : List UInt8) : Prop := w.ownsRow base 5 1 v l.length (bts l)
theorem RowB.lit (w : World) (base : Nat) (l : List UInt8) (hb : base ≤ w.heap.size) (hl : l.length ≤ 1000000) : RowB (w.alloc (.cells (bts l).toArray 5)) base (.slice (some ⟨w.heap.size, 0, none⟩) l.length l.length) l := by
  refine ⟨by simp [bts], .inr ⟨w.heap.size, l.length, (bts l).toArray, rfl, hb, World.alloc_heap_new w _, Nat.le_refl _, by unfold maxLen; omega, by simp [bts], by
    have h1 : (bts l).length = l.length := by simp [bts]
    rw [Nat.mul_one]
    exact List.take_of_length_le (Nat.le_of_eq h1)⟩⟩
theorem RowB.fr {F : Nat → Prop} {w w' : World} {base : Nat} {v : Value} {l : List UInt8} (h : RowB w base v l) (hf : Fr F w w') (hF : ∀ b, base ≤ b → ¬ F b) : RowB w' base v l := own_fr h hf (fun g hg => hF g (h.lt g hg).1)
end
end Go.Proofs.YtfapklpcgcgahaaGreatDoor

/-
  How a store lies in memory: a pool, its changes, its saves.
-/
namespace Go.Proofs.YtfapklpcgcgahaaGreatDoor
set_option linter.unusedSimpArgs false
set_option linter.unusedVariables false
open Go.RowKit Go.Maps

/-- A change, and where its old bytes lie. -/
structure CM where
  c : Chg
  g : Nat
  o : Nat
  cap : Nat
def CM.cells (x : CM) : List Value := [.int .u64 x.c.lsn, .int .i64 x.c.no, .int .i64 x.c.at_, .slice (some ⟨x.g, x.o, none⟩) x.c.old.length x.cap]
def cmCells (l : List CM) : List Value := l.flatMap CM.cells
def svCells (l : List (Nat × Nat)) : List Value := l.flatMap fun x => [.int .i64 x.1, .int .i64 x.2]
theorem cmCells_length (l : List CM) : (cmCells l).length = l.length * 4 := by
  induction l with
  | nil => rfl
  | cons x l ih => simp only [cmCells, List.flatMap_cons, List.length_append, CM.cells, List.length_cons, List.length_nil] at ih ⊢; omega
theorem svCells_length (l : List (Nat × Nat)) : (svCells l).length = l.length * 2 := by
  induction l with
  | nil => rfl
  | cons x l ih => simp only [svCells, List.flatMap_cons, List.length_append, List.length_cons, List.length_nil] at ih ⊢; omega
theorem cmCells_append (l m : List CM) : cmCells (l ++ m) = cmCells l ++ cmCells m := by simp [cmCells]
theorem svCells_append (l m : List (Nat × Nat)) : svCells (l ++ m) = svCells l ++ svCells m := by simp [svCells]
theorem cmCells_one (x : CM) : cmCells [x] = x.cells := by simp [cmCells]
theorem svCells_one (x : Nat × Nat) : svCells [x] = [.int .i64 x.1, .int .i64 x.2] := by simp [svCells]
theorem cmCells_take (l : List CM) (k : Nat) : (cmCells l).take (k * 4) = cmCells (l.take k) := by
  rcases Nat.lt_or_ge k l.length with h | h
  · have h1 : cmCells l = cmCells (l.take k) ++ cmCells (l.drop k) := by rw [← cmCells_append, List.take_append_drop]
    have h2 : (cmCells (l.take k)).length = k * 4 := by rw [cmCells_length, List.length_take, Nat.min_eq_left (by omega)]
    rw [h1, ← h2, List.take_left]
  · rw [List.take_of_length_le (by rw [cmCells_length]; omega), List.take_of_length_le h]
theorem svCells_take (l : List (Nat × Nat)) (k : Nat) : (svCells l).take (k * 2) = svCells (l.take k) := by
  rcases Nat.lt_or_ge k l.length with h | h
  · have h1 : svCells l = svCells (l.take k) ++ svCells (l.drop k) := by rw [← svCells_append, List.take_append_drop]
    have h2 : (svCells (l.take k)).length = k * 2 := by rw [svCells_length, List.length_take, Nat.min_eq_left (by omega)]
    rw [h1, ← h2, List.take_left]
  · rw [List.take_of_length_le (by rw [svCells_length]; omega), List.take_of_length_le h]
theorem cmCells_get (l : List CM) {i : Nat} {x : CM} (hi : l[i]? = some x) (j : Nat) (hj : j < 4) : (cmCells l)[4 * i + j]? = x.cells[j]? := by
  induction l generalizing i with
  | nil => simp at hi
  | cons y l ih =>
    have e : cmCells (y :: l) = y.cells ++ cmCells l := by simp [cmCells]
    have hy : y.cells.length = 4 := rfl
    rw [e]
    cases i with
    | zero =>
      simp only [List.getElem?_cons_zero, Option.some.injEq] at hi
      subst hi
      rw [List.getElem?_append_left (by omega)]
      simp
    | succ i =>
      rw [List.getElem?_cons_succ] at hi
      rw [List.getElem?_append_right (by omega), hy, show 4 * (i + 1) + j - 4 = 4 * i + j from by omega]
      exact ih hi
theorem svCells_get (l : List (Nat × Nat)) {i : Nat} {x : Nat × Nat} (hi : l[i]? = some x) : (svCells l)[2 * i]? = some (.int .i64 x.1) ∧ (svCells l)[2 * i + 1]? = some (.int .i64 x.2) := by
  induction l generalizing i with
  | nil => simp at hi
  | cons y l ih =>
    have e : svCells (y :: l) = [.int .i64 y.1, .int .i64 y.2] ++ svCells l := by simp [svCells]
    rw [e]
    cases i with
    | zero =>
      simp only [List.getElem?_cons_zero, Option.some.injEq] at hi
      subst hi
      exact ⟨rfl, rfl⟩
    | succ i =>
      rw [List.getElem?_cons_succ] at hi
      have h2 := ih hi
      constructor
      · rw [List.getElem?_append_right (by simp; omega)]; exact (by rw [← h2.1]; congr 1)
      · rw [List.getElem?_append_right (by simp; omega)]; exact (by rw [← h2.2]; congr 1)
theorem cm_one (l : List CM) : ∀ u ∈ cmCells l, u.oneCell' = true := by
  intro u hu
  simp only [cmCells, List.mem_flatMap, CM.cells] at hu
  obtain ⟨x, _, hu⟩ := hu
  simp only [List.mem_cons, List.not_mem_nil, or_false] at hu
  rcases hu with rfl | rfl | rfl | rfl <;> rfl
theorem sv_one (l : List (Nat × Nat)) : ∀ u ∈ svCells l, u.oneCell' = true := by
  intro u hu
  simp only [svCells, List.mem_flatMap] at hu
  obtain ⟨x, _, hu⟩ := hu
  simp only [List.mem_cons, List.not_mem_nil, or_false] at hu
  rcases hu with rfl | rfl <;> rfl

/-- A store as memory has it. -/
structure TS where
  d : Nat
  p : Nat
  l : Nat
  f : Nat
  frames : Int
  V : Nat → PgV
  L : LS
  busy : Bool
  cv : Value
  sv : Value
  cms : List CM
  ss : List (Nat × Nat)
  last : Nat
  undone : Nat
def TS.cs (T : TS) : List Chg := T.cms.map (·.c)
def TS.cells (T : TS) (pages : Nat) : Array Value := #[.pointer (some ⟨T.d, 0, none⟩), .pointer (some ⟨T.p, 0, none⟩), .pointer (some ⟨T.l, 0, none⟩), .int .i64 pages, .bool T.busy, T.cv, T.sv, .int .i64 T.last, .int .i64 (needAll T.cs), .int .i64 T.undone]
/-- A change that may be undone. -/
structure CM.Good (x : CM) (pages : Nat) : Prop where
  no : x.c.no < pages
  fit : x.c.at_ + x.c.old.length ≤ 480
  at1 : x.c.at_ < 480
  cap : x.c.old.length ≤ x.cap
  cap1 : x.cap ≤ 9223372036854775807
  lsn : x.c.lsn < 18446744073709551616
/-- A store's own blocks in RS, its changes' old bytes in RO, what its pool is made of in U; K: a bound on what was called. -/
structure TxIn (RS RO U : Nat → Prop) (w : World) (s pages M K : Nat) (T : TS) : Prop where
  blk : Blk w s 81 (T.cells pages)
  pool : PoolOk U w T.p T.f T.l T.d pages T.frames T.V T.L M K (fun _ => True)
  chg : w.ownsRow 0 93 4 T.cv T.cms.length (cmCells T.cms)
  sav : w.ownsRow 0 97 2 T.sv T.ss.length (svCells T.ss)
  old : ∀ x ∈ T.cms, RO x.g ∧ BytesIn w (some ⟨x.g, x.o, none⟩) x.c.old ∧ x.Good pages
  rs : RS s
  rc : ∀ g, T.cv.ownBlock = some g → RS g
  rv : ∀ g, T.sv.ownBlock = some g → RS g
  ap : ∀ b, RS b → ¬ RO b ∧ ¬ U b
  ap2 : ∀ b, RO b → ¬ U b
  lts : ∀ b, RS b → b < w.heap.size
  lto : ∀ b, RO b → b < w.heap.size
  ltu : ∀ b, U b → b < w.heap.size
  n1 : T.cms.length ≤ K
  n2 : T.ss.length ≤ K
  n3 : T.last ≤ K
  n4 : T.undone ≤ K
  sum : T.L.room + ((T.L.l.map fun x => 16 + x.1.length).sum : Nat) = 48 * ((T.L.n : Int) - 8)
  n16 : 64 ≤ T.L.n
theorem PoolOk.more2 {U : Nat → Prop} {w : World} {p f l d pages : Nat} {frames : Int} {V : Nat → PgV} {L : LS} {M N : Nat} {Dt : Nat → Prop} (h : PoolOk U w p f l d pages frames V L M N Dt) {N' : Nat} (hN : N ≤ N') (h1 : N' ≤ 400000) : PoolOk U w p f l d pages frames V L M N' Dt := by
  obtain ⟨RP, RQ, RL, RD, hand, B, rv, fs, cur, S, T, lot, L', h2, h3⟩ := h
  exact ⟨RP, RQ, RL, RD, hand, B, rv, fs, cur, S, T, lot, L', { h2 with und := { h2.und with good := { h2.und.good with fin := Nat.le_trans h2.und.good.fin (Nat.mul_le_mul_left _ hN), next := Nat.le_trans h2.und.good.next (by omega), N1 := h1 } } }, h3⟩
theorem PoolOk.nx {U : Nat → Prop} {w : World} {p f l d pages : Nat} {frames : Int} {V : Nat → PgV} {L : LS} {M N : Nat} {Dt : Nat → Prop} (h : PoolOk U w p f l d pages frames V L M N Dt) : L.next ≤ N + 1 ∧ N ≤ 400000 ∧ L.room ≤ 2000000 ∧ M ≤ 1000000000000000000 := by
  obtain ⟨RP, RQ, RL, RD, hand, B, rv, fs, cur, S, T, lot, L', h2, h3, _⟩ := h
  have := h2.und.good.next
  exact ⟨by rw [← h3.next]; exact this, h2.und.good.N1, by rw [← h3.room]; exact h2.und.good.room, h2.M1⟩
section
variable {RS RO U F : Nat → Prop} {w w' : World} {s pages M K : Nat} {T : TS}
theorem TxIn.fr (h : TxIn RS RO U w s pages M K T) (hf : Fr F w w') (h1 : ∀ b, RS b → ¬ F b) (h2 : ∀ b, RO b → ¬ F b) (h3 : ∀ b, U b → ¬ F b) : TxIn RS RO U w' s pages M K T :=
  { h with
    blk := h.blk.fr hf (h1 _ h.rs)
    pool := h.pool.fr hf h3
    chg := own_fr h.chg hf (fun g hg => h1 _ (h.rc g hg))
    sav := own_fr h.sav hf (fun g hg => h1 _ (h.rv g hg))
    old := fun x hx => ⟨(h.old x hx).1, (h.old x hx).2.1.fr hf (fun a ha => by injection ha with ha; subst ha; exact h2 _ (h.old x hx).1), (h.old x hx).2.2⟩
    lts := fun b hb => Nat.lt_of_lt_of_le (h.lts b hb) hf.size
    lto := fun b hb => Nat.lt_of_lt_of_le (h.lto b hb) hf.size
    ltu := fun b hb => Nat.lt_of_lt_of_le (h.ltu b hb) hf.size }
theorem TxIn.new (h : TxIn RS RO U w s pages M K T) (hf : Fr Nob w w') : TxIn RS RO U w' s pages M K T := h.fr hf (fun _ _ h => h) (fun _ _ h => h) (fun _ _ h => h)
theorem TxIn.more (h : TxIn RS RO U w s pages M K T) {M' K' : Nat} (hM : M ≤ M') (hM1 : M' ≤ 1000000000000000000) (hK : K ≤ K') (hK1 : K' ≤ 400000) : TxIn RS RO U w s pages M' K' T :=
  { h with
    pool := (h.pool.more hM hM1).more2 hK hK1
    n1 := Nat.le_trans h.n1 hK
    n2 := Nat.le_trans h.n2 hK
    n3 := Nat.le_trans h.n3 hK
    n4 := Nat.le_trans h.n4 hK }
/-- A call on the pool. -/
theorem TxIn.step (h : TxIn RS RO U w s pages M K T) {U' : Nat → Prop} {V' : Nat → PgV} {M' : Nat} {Dt' : Nat → Prop} (hok : PoolOk U' w' T.p T.f T.l T.d pages T.frames V' T.L M' K Dt') (hs : ∀ b, U' b → U b ∨ w.heap.size ≤ b) (hf : Fr U w w') :
    TxIn RS RO (fun b => U' b ∧ b < w'.heap.size) w' s pages M' K { T with V := V' } := by
  have h1 : ∀ b, RS b → ¬ U b := fun b hb => (h.ap b hb).2
  exact { h with
    blk := h.blk.fr hf (h1 _ h.rs)
    pool := hok.trim.dmono (fun _ _ => trivial)
    chg := own_fr h.chg hf (fun g hg => h1 _ (h.rc g hg))
    sav := own_fr h.sav hf (fun g hg => h1 _ (h.rv g hg))
    old := fun x hx => ⟨(h.old x hx).1, (h.old x hx).2.1.fr hf (fun a ha => by injection ha with ha; subst ha; exact h.ap2 _ (h.old x hx).1), (h.old x hx).2.2⟩
    ap := fun b hb => ⟨(h.ap b hb).1, fun e => by
      rcases hs b e.1 with e | e
      · exact h1 b hb e
      · have := h.lts b hb; omega⟩
    ap2 := fun b hb e => by
      rcases hs b e.1 with e | e
      · exact h.ap2 b hb e
      · have := h.lto b hb; omega
    lts := fun b hb => Nat.lt_of_lt_of_le (h.lts b hb) hf.size
    lto := fun b hb => Nat.lt_of_lt_of_le (h.lto b hb) hf.size
    ltu := fun b hb => hb.2 }
/-- A record behind the others. -/
theorem TxIn.add (h : TxIn RS RO U w s pages M K T) {U' : Nat → Prop} {r : List UInt8} {M' : Nat} {Dt' : Nat → Prop} (hok : PoolOk U' w' T.p T.f T.l T.d pages T.frames T.V (T.L.add r) M' (K + 1) Dt') (hs : ∀ b, U' b → U b ∨ w.heap.size ≤ b) (hf : Fr U w w') :
    TxIn RS RO (fun b => U' b ∧ b < w'.heap.size) w' s pages M' (K + 1) { T with L := T.L.add r } := by
  have h1 : ∀ b, RS b → ¬ U b := fun b hb => (h.ap b hb).2
  exact { h with
    blk := h.blk.fr hf (h1 _ h.rs)
    pool := hok.trim.dmono (fun _ _ => trivial)
    chg := own_fr h.chg hf (fun g hg => h1 _ (h.rc g hg))
    sav := own_fr h.sav hf (fun g hg => h1 _ (h.rv g hg))
    old := fun x hx => ⟨(h.old x hx).1, (h.old x hx).2.1.fr hf (fun a ha => by injection ha with ha; subst ha; exact h.ap2 _ (h.old x hx).1), (h.old x hx).2.2⟩
    ap := fun b hb => ⟨(h.ap b hb).1, fun e => by
      rcases hs b e.1 with e | e
      · exact h1 b hb e
      · have := h.lts b hb; omega⟩
    ap2 := fun b hb e => by
      rcases hs b e.1 with e | e
      · exact h.ap2 b hb e
      · have := h.lto b hb; omega
    lts := fun b hb => Nat.lt_of_lt_of_le (h.lts b hb) hf.size
    lto := fun b hb => Nat.lt_of_lt_of_le (h.lto b hb) hf.size
    ltu := fun b hb => hb.2
    n1 := Nat.le_succ_of_le h.n1
    n2 := Nat.le_succ_of_le h.n2
    n3 := Nat.le_succ_of_le h.n3
    n4 := Nat.le_succ_of_le h.n4
    sum := by
      have h2 := h.sum
      show T.L.room - (16 + r.length) + (((T.L.l ++ [(r, T.L.fin)]).map fun x => 16 + x.1.length).sum : Nat) = 48 * ((T.L.n : Int) - 8)
      rw [List.map_append, List.sum_append]
      simp only [List.map_cons, List.map_nil, List.sum_cons, List.sum_nil]
      omega }
/-- One more block of old bytes. -/
theorem TxIn.moreO (h : TxIn RS RO U w s pages M K T) {g : Nat} (hg : g < w.heap.size) (h1 : ¬ RS g) (h2 : ¬ U g) : TxIn RS (fun b => RO b ∨ b = g) U w s pages M K T :=
  { h with
    old := fun x hx => ⟨.inl (h.old x hx).1, (h.old x hx).2⟩
    ap := fun b hb => ⟨fun e => by
      rcases e with e | rfl
      · exact (h.ap b hb).1 e
      · exact h1 hb, (h.ap b hb).2⟩
    ap2 := fun b hb => by
      rcases hb with hb | rfl
      · exact h.ap2 b hb
      · exact h2
    lto := fun b hb => by
      rcases hb with hb | rfl
      · exact h.lto b hb
      · exact hg }
/-- The store's own fields turn. -/
theorem TxIn.turn (h : TxIn RS RO U w s pages M K T) (hf : Fr F w w') (hF : ∀ b, b < w.heap.size → F b → RS b) (bz : Bool) (cv sv : Value) (cms : List CM) (ss : List (Nat × Nat)) (la un : Nat)
    (blk : Blk w' s 81 ({ T with busy := bz, cv := cv, sv := sv, cms := cms, ss := ss, last := la, undone := un }.cells pages))
    (chg : w'.ownsRow 0 93 4 cv cms.length (cmCells cms)) (sav : w'.ownsRow 0 97 2 sv ss.length (svCells ss))
    (hc : ∀ g, cv.ownBlock = some g → RS g ∨ w.heap.size ≤ g) (hv : ∀ g, sv.ownBlock = some g → RS g ∨ w.heap.size ≤ g)
    (old : ∀ x ∈ cms, x ∈ T.cms ∨ (RO x.g ∧ BytesIn w (some ⟨x.g, x.o, none⟩) x.c.old ∧ x.Good pages))
    (n1 : cms.length ≤ K) (n2 : ss.length ≤ K) (n3 : la ≤ K) (n4 : un ≤ K) :
    TxIn (fun b => RS b ∨ cv.ownBlock = some b ∨ sv.ownBlock = some b) RO U w' s pages M K { T with busy := bz, cv := cv, sv := sv, cms := cms, ss := ss, last := la, undone := un } := by
  have hO : ∀ b, RO b → ¬ F b := fun b hb e => (h.ap b (hF b (h.lto b hb) e)).1 hb
  have hU : ∀ b, U b → ¬ F b := fun b hb e => (h.ap b (hF b (h.ltu b hb) e)).2 hb
  have hsplit : ∀ b, (RS b ∨ cv.ownBlock = some b ∨ sv.ownBlock = some b) → RS b ∨ w.heap.size ≤ b := fun b hb => by
    rcases hb with hb | hb | hb
    · exact .inl hb
    · exact hc b hb
    · exact hv b hb
  exact { h with
    blk := blk
    pool := h.pool.fr hf hU
    chg := chg
    sav := sav
    old := fun x hx => by
      have hx2 : RO x.g ∧ BytesIn w (some ⟨x.g, x.o, none⟩) x.c.old ∧ x.Good pages := (old x hx).elim (fun e => h.old x e) id
      exact ⟨hx2.1, hx2.2.1.fr hf (fun a ha => by injection ha with ha; subst ha; exact hO _ hx2.1), hx2.2.2⟩
    rs := .inl h.rs
    rc := fun g hg => .inr (.inl hg)
    rv := fun g hg => .inr (.inr hg)
    ap := fun b hb => by
      rcases hsplit b hb with e | e
      · exact h.ap b e
      · exact ⟨fun q => by have := h.lto b q; omega, fun q => by have := h.ltu b q; omega⟩
    lts := fun b hb => by
      rcases hb with hb | hb | hb
      · exact Nat.lt_of_lt_of_le (h.lts b hb) hf.size
      · exact (chg.lt b hb).2
      · exact (sav.lt b hb).2
    lto := fun b hb => Nat.lt_of_lt_of_le (h.lto b hb) hf.size
    ltu := fun b hb => Nat.lt_of_lt_of_le (h.ltu b hb) hf.size
    n1 := n1
    n2 := n2
    n3 := n3
    n4 := n4 }
/-- All of a store. -/
def All3 (RS RO U : Nat → Prop) : Nat → Prop := fun b => RS b ∨ RO b ∨ U b
end
end Go.Proofs.YtfapklpcgcgahaaGreatDoor

/-
  lay: bytes put into a page, behind a record.
-/
namespace Go.Proofs.YtfapklpcgcgahaaGreatDoor
set_option linter.unusedSimpArgs false
set_option linter.unusedVariables false
open Go.RowKit Go.Maps

theorem splice_layB {cl : List Value} {d b : List UInt8} {at_ : Nat} (hd : d.length = 480) (hl : 480 ≤ cl.length) (he : cl.take 480 = bts d) (hat : at_ + b.length ≤ 480) : (splice cl at_ (bts b)).length = cl.length ∧ (splice cl at_ (bts b)).take 480 = bts (layB d at_ b) := by
  have hbl := bts_length b
  refine ⟨length_splice _ _ _ (by omega), ?_⟩
  have e1 : cl = bts d ++ cl.drop 480 := by rw [← he, List.take_append_drop]
  have hdl : (bts d).length = 480 := by rw [bts_length, hd]
  have e2 : splice cl at_ (bts b) = bts (layB d at_ b) ++ cl.drop 480 := by
    conv => lhs; rw [e1]
    unfold splice layB
    rw [List.take_append_of_le_length (by omega), List.drop_append_of_le_length (by omega), bts_append, bts_append, hbl]
    simp only [bts, List.map_take, List.map_drop, List.append_assoc]
  rw [e2, List.take_append_of_le_length (by rw [bts_length, layB_length (by omega)]; omega)]
  exact List.take_of_length_le (by rw [bts_length, layB_length (by omega)]; omega)
theorem CopyIn.laid {w' : World} {g at_ : Nat} {d b : List UInt8} {cl : List Value} (hd : d.length = 480) (hl : 480 ≤ cl.length) (he : cl.take 480 = bts d) (hat : at_ + b.length ≤ 480) (h : Blk w' g 5 (splice cl at_ (bts b)).toArray) : CopyIn w' g (layB d at_ b) := by
  obtain ⟨h1, h2⟩ := splice_layB hd hl he hat
  have h3 : (layB d at_ b).length = 480 := by rw [layB_length (by omega), hd]
  exact ⟨_, h, by rw [h3]; show 480 ≤ (splice cl at_ (bts b)).length; omega, by rw [h3]; exact h2⟩
def laidV (V : Nat → PgV) (no lsn at_ : Nat) (b : List UInt8) : Nat → PgV := fun k => if k = no then ⟨no, lsn, layB (V no).d at_ b⟩ else V k
theorem info_u8sz : (Tryz.prog.info? 5).map (·.size) = some 1 := by kernel_rfl
section
variable {U : Nat → Prop} {w : World} {p f l d pages : Nat} {frames : Int} {V : Nat → PgV} {L : LS} {M N : Nat} {Dt : Nat → Prop}
set_option maxHeartbeats 3200000 in
set_option maxRecDepth 100000 in
theorem Lay_any (h : PoolOk U w p f l d pages frames V L M N Dt) (s no at_ lsn gb ob cb : Nat) (b : List UInt8) (hs : w.cell? ⟨s, 1, none⟩ = some (.pointer (some ⟨p, 0, none⟩))) (hsU : ¬ U s)
    (hb : BytesIn w (some ⟨gb, ob, none⟩) b) (hbU : ¬ U gb) (hbz : gb < w.heap.size) (hno : no < pages) (hat : at_ + b.length ≤ 480) (hat0 : at_ < 480) (hl : lsn < L.next) (hM : M + 2 ≤ 1000000000000000000) :
    Calls Tryz.prog 47 #[.pointer (some ⟨s, 0, none⟩), .int .i64 no, .int .i64 at_, .slice (some ⟨gb, ob, none⟩) b.length cb, .int .u64 lsn] w fun e w' => e = .returned (.int .i64 0) ∧ ∃ U', PoolOk U' w' p f l d pages frames (laidV V no lsn at_ b) L (M + 2) N (fun k => Dt k ∨ k = no) ∧ (∀ b, U' b → U b ∨ w.heap.size ≤ b) ∧ Fr U w w' := by
  obtain ⟨hvo, hvn⟩ := h.vok no hno
  have hpg := h.pg
  have hnx := h.nx
  have HGet := Lib.hid (h.get no hno (by omega))
  have HB := Lib.hid hb
  have HV := Lib.hid hvo.d
  have hsz := cell_lt hs
  have HS := Lib.hid hs
  have HSU := Lib.hid hsU
  have HBU := Lib.hid hbU
  have HL := Lib.hid hl
  obtain ⟨n, hn⟩ : ∃ n, b.length = n := ⟨_, rfl⟩
  have HN := Lib.hid hn
  rw [hn] at hat ⊢
  have qL : ∀ (w : World) (A : Option Addr) (n c : Nat), (Builtin.len_ #[40] 3 #[Value.slice A n c]).run Tryz.prog w = .ok (.int .i64 n) w := fun w A n c => by go_simp
  clear h hb hvo hsU hbU hn hl
  go_enter Tryz.func47, Tryz.ntmps47
  go_wp2_with fail
  refine HGet.out.mono ?_
  rintro e w1 ⟨g, rfl, hc, hg, U1, hok, hug, hsub, hf⟩
  have hg1 := hc.lt
  obtain ⟨⟨cl⟩, hcb, hcl, hct⟩ := hc
  rw [HV.out] at hcl hct
  have HCb := Lib.hid hcb
  have HCt := Lib.hid hct
  have HOk := Lib.hid hok
  have HUg := Lib.hid hug
  have HSub := Lib.hid hsub
  have HF := Lib.hid hf
  have hcl : 480 ≤ cl.length := hcl
  have hz1 := hf.size
  clear hcb hct hok hug hsub hf HGet
  have hfa : Fr Nob w1 (w1.alloc (.cells #[.int .i64 no, .int .u64 (V no).lsn, .slice (some ⟨g, 0, none⟩) 480 480] 84)) := (Fr.refl _ w1).alloc _
  have hba : Blk (w1.alloc (.cells #[.int .i64 no, .int .u64 (V no).lsn, .slice (some ⟨g, 0, none⟩) 480 480] 84)) w1.heap.size 84 #[.int .i64 no, .int .u64 (V no).lsn, .slice (some ⟨g, 0, none⟩) 480 480] := Blk.new _ _ _
  obtain ⟨wa, hwa⟩ : ∃ W, w1.alloc (.cells #[.int .i64 no, .int .u64 (V no).lsn, .slice (some ⟨g, 0, none⟩) 480 480] 84) = W := ⟨_, rfl⟩
  obtain ⟨gp, hgp⟩ : ∃ g, w1.heap.size = g := ⟨_, rfl⟩
  have HCa : Hid (wa.heap[g]? = some (.cells cl.toArray 5 (0, 0))) := by rw [← hwa]; exact HCb.out.fr hfa (fun h => h)
  have HSrc : Hid (∀ j v, (bts b)[j]? = some v → wa.cell? ((⟨gb, ob, none⟩ : Addr).add j) = some v) := fun j u hu => bytesIn_cells (by rw [← hwa]; exact (HB.out.fr HF.out (fun a ha => by injection ha with ha; subst ha; exact HBU.out)).new hfa) j u hu
  have hbn : (bts b).length = n := by rw [bts_length]; exact HN.out
  have HNn : Hid ((bts b).length = Nat.min n (480 - at_)) := by rw [Hid, hbn]; exact (Nat.min_eq_left (by omega)).symm
  have HFit : Hid (at_ + (bts b).length ≤ cl.length) := by rw [Hid, hbn]; omega
  have HFa : Hid (Fr Nob w1 wa) := by rw [← hwa]; exact hfa
  have HBa : Hid (Blk wa gp 84 #[.int .i64 no, .int .u64 (V no).lsn, .slice (some ⟨g, 0, none⟩) 480 480]) := by rw [← hwa, ← hgp]; exact hba
  have HGp := Lib.hid hgp
  have hgg : g < gp := by omega
  have HBn := Lib.hid hbn
  have hne : ¬ (480 = at_) := by omega
  have a2 := HBa.out.cell 2
  have za := HBa.out.lt
  simp only [List.getElem?_toArray, List.getElem?_cons_zero, List.getElem?_cons_succ] at a2
  clear hfa hba hbn
  go_wp2_with ((with_reducible refine wpList_copy_exact rfl (.tmp 28) (.tmp 29) 40 40 rfl 5 Tryz.underlying40 info_u8sz _ (some ⟨gb, ob, none⟩) (480 - at_) (480 - at_) n cb rfl rfl g at_ cl 5 HCa.out (bts b) HNn.out (fun h => ⟨rfl, _, rfl, HSrc.out⟩) HFit.out (bts_one b) ?_); intro w3 hg3 hgr3; have HG3 := Lib.hid hg3.out; have HF3 : Hid (Fr (fun k => k = g) wa w3) := (Fr.refl _ wa).grown hgr3 (fun r hr => by cases hr; exact .inr rfl); have hb3 := HBa.out.fr HF3.out (fun e => Nat.ne_of_gt hgg e); have HB3 := Lib.hid hb3; have b1 := hb3.cell 1; have f1 := hb3.frozen 1; have zb := hb3.lt; simp only [List.getElem?_toArray, List.getElem?_cons_zero, List.getElem?_cons_succ] at b1; clear hg3 hgr3 hb3)
  have hb4 := HB3.out.set_ 1 (.int .u64 lsn)
  have hf34 : Fr (fun k => k = gp) w3 (w3.setCell ⟨gp, 1, none⟩ (.int .u64 lsn)) := (Fr.refl (fun k => k = gp) w3).setCell (p := ⟨gp, 1, none⟩) (.inr rfl) _
  have hg3' : Blk w3 g 5 (splice cl at_ (bts b)).toArray := HG3.out
  have hg4 := hg3'.fr hf34 (fun e => Nat.ne_of_lt hgg e)
  have hc4 := CopyIn.laid HV.out hcl HCt.out (by rw [HN.out]; exact hat) hg4
  have hf14 : Fr (fun k => k = g ∨ k = gp) w1 (w3.setCell ⟨gp, 1, none⟩ (.int .u64 lsn)) := ((HFa.out.mono (fun _ _ h => h.elim)).trans (HF3.out.mono (fun _ _ h => .inl h))).trans (hf34.mono (fun _ _ h => .inr h))
  obtain ⟨w4, hw4⟩ : ∃ W, w3.setCell ⟨gp, 1, none⟩ (.int .u64 lsn) = W := ⟨_, rfl⟩
  rw [hw4] at hb4 hc4 hf14 ⊢
  simp only [List.setIfInBounds_toArray, List.set_cons_zero, List.set_cons_succ] at hb4
  have hgz := HGp.out
  have hok4 := HOk.out.trim.fr hf14 (fun x hx e => by
    rcases e with rfl | rfl
    · exact HUg.out hx.1
    · exact absurd hx.2 (by omega))
  have cs4 : w4.cell? ⟨s, 1, none⟩ = some (.pointer (some ⟨p, 0, none⟩)) := (hf14.cell (p := ⟨s, 1, none⟩) (by show s < w1.heap.size; omega) (fun e => by
    have e : s = g ∨ s = gp := e
    omega)).trans ((HF.out.cell (p := ⟨s, 1, none⟩) hsz HSU.out).trans HS.out)
  have zs4 : s < w4.heap.size := Nat.lt_of_lt_of_le (by omega) hf14.size
  have zg4 := hb4.lt
  have HB4 := Lib.hid hb4
  have HC4 := Lib.hid hc4
  have HOk4 := Lib.hid hok4
  have HF14 := Lib.hid hf14
  have HCs := Lib.hid cs4
  have hll : (layB (V no).d at_ b).length = 480 := by rw [layB_length (by rw [HV.out, HN.out]; exact hat)]; exact HV.out
  have HLl := Lib.hid hll
  clear hw4 hb4 hc4 hok4 hf14 hf34 hg3' hg4 cs4 hll a2 b1 f1 zb za hwa hs
  have hS : Fr Nob w4 w4.drew := (Fr.refl _ w4).drew
  refine Rg.begin (Fr Nob w4) [5, 6] (by kernel_rfl) ?_
  refine Rg.op 0 (some 33) hS (v := ?v0) (hy := fun wz hwz => ?h0) (h := ?_)
  case h0 => (go_simp; try with_reducible rfl)
  refine Rg.op 1 (some 34) hS (v := ?v1) (hy := fun wz hwz => ?h1) (h := ?_)
  case h1 => (have hpp := Nat.lt_of_lt_of_le zs4 hwz.size; go_simp; try with_reducible rfl)
  refine Rg.op 2 (some 35) hS (v := ?v2) (hy := fun wz hwz => ?h2) (h := ?_)
  case h2 => (have hpp := Nat.lt_of_lt_of_le zs4 hwz.size; go_simp; try with_reducible rfl)
  refine Rg.op 3 (some 36) hS (v := (.pointer (some ⟨p, 0, none⟩))) (hy := fun wz hwz => ?h3) (h := ?_)
  case h3 => (have cx := (hwz.cell (p := ⟨s, 1, none⟩) zs4 (fun h => h)).trans HCs.out; have hpp := Nat.lt_of_lt_of_le zs4 hwz.size; go_simp; try with_reducible rfl)
  refine Rg.op 4 (some 37) hS (v := (.agg #[.int .i64 no, .int .u64 lsn, .slice (some ⟨g, 0, none⟩) 480 480])) (hy := fun wz hwz => ?h4) (h := ?_)
  case h4 => (exact op_load_mid _ _ rfl gp 0 rfl [.int .i64 no, .int .u64 lsn, .slice (some ⟨g, 0, none⟩) 480 480] _ (rangeAt_of (HB4.out.fr hwz (fun h => h)) _ (fun j v hv => by rw [Nat.zero_add]; simpa using hv)) Tryz.underlying84 rfl page_size)
  have hok5 := HOk4.out.new hS
  have hput := hok5.put ⟨no, lsn, layB (V no).d at_ b⟩ g 0 480 ((HC4.out.fr hS (fun h => h)).bsl 480 (by rw [HLl.out]; exact Nat.le_refl _)) ⟨by show no < 100000; omega, by show lsn < 18446744073709551616; have := HL.out; omega, HLl.out⟩ hno HL.out (fun e => HUg.out e.1) (by omega)
  have HPut := Lib.hid hput
  clear hok5 hput
  refine Rg.call 5 (some 38) (hrun := ?h5) (hcall := HPut.out) (h := ?_)
  case h5 => (go_simp)
  rintro e w5 ⟨rfl, U5, hok5, hsub5, hf5⟩
  refine ⟨_, ?a5, rfl, ?b5, (fun h => absurd (by decide) h), ?_⟩
  case b5 => (simp only [Act.put, List.setIfInBounds_toArray, List.set_cons_zero, List.set_cons_succ]; rfl)
  refine Rg.late 6 (some 10) (v := ?v6) (hrun := ?h6) (h := ?_)
  case h6 => (go_simp; try with_reducible rfl)
  refine Rg.done _ (h := ?_)
  go_wp2
  go_ret
  have hz4 := HF14.out.size
  have hS4 : Fr Nob w4 w4.drew := (Fr.refl _ w4).drew
  refine ⟨rfl, U5, hok5, fun x hx => ?_, ?_⟩
  · rcases hsub5 x hx with e | e
    · exact HSub.out x e.1
    · have e : w4.heap.size ≤ x := e
      exact .inr (by omega)
  · refine (HF.out.step (HF14.out.trans (hS4.mono (fun _ _ h => h.elim))) (fun i hi e => ?_)).step hf5 (fun i hi e => ?_)
    · have e : i = g ∨ i = gp := e
      omega
    · rcases HSub.out i e.1 with e2 | e2
      · exact e2
      · omega
end
end Go.Proofs.YtfapklpcgcgahaaGreatDoor
