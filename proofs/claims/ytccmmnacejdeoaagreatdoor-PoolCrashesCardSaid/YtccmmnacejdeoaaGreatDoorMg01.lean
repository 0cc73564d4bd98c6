/-
  Base, DiskRep, in one text.
-/
import Derived.Below
import Derived.Laws.OwnMore
import Derived.Laws.Rows
import Derived.Maps.AppendAt
import Derived.Deep.AppendLies
import Derived.Deep.Draws
import Derived.Lib.Hide
import Derived.Laws.BitsLemmas
/-
  Plain words on memory that all the walks of this seat use: what a call may have changed (Fr), a block known whole (Blk), a row of bytes.
-/
namespace Go.Proofs.YtccmmnacejdeoaaGreatDoor
set_option linter.unusedSimpArgs false
set_option linter.unusedVariables false
open Go.RowKit

/-- Block g is just the cells cs of element type t, none frozen. -/
def Blk (w : World) (g : Nat) (t : TypeId) (cs : Array Value) : Prop := w.heap[g]? = some (.cells cs t (0, 0))

/-- From w to w' nothing has changed but blocks of F and new ones. -/
structure Fr (F : Nat → Prop) (w w' : World) : Prop where
  os : w'.os = w.os
  tape : w'.tape = w.tape
  output : w'.output = w.output
  size : w.heap.size ≤ w'.heap.size
  block : ∀ k, k < w.heap.size → ¬ F k → w'.heap[k]? = w.heap[k]?

def Nob : Nat → Prop := fun _ => False

theorem Fr.refl (F : Nat → Prop) (w : World) : Fr F w w := ⟨rfl, rfl, rfl, Nat.le_refl _, fun _ _ _ => rfl⟩
theorem Fr.trans {F : Nat → Prop} {a b c : World} (h : Fr F a b) (k : Fr F b c) : Fr F a c :=
  ⟨k.os.trans h.os, k.tape.trans h.tape, k.output.trans h.output, Nat.le_trans h.size k.size,
    fun i hi hf => (k.block i (Nat.lt_of_lt_of_le hi h.size) hf).trans (h.block i hi hf)⟩
theorem Fr.mono {F G : Nat → Prop} {a b : World} (h : Fr F a b) (hs : ∀ i, i < a.heap.size → F i → G i) : Fr G a b :=
  ⟨h.os, h.tape, h.output, h.size, fun i hi hg => h.block i hi (fun hf => hg (hs i hi hf))⟩
/-- The second step may change what the first one made. -/
theorem Fr.step {F G : Nat → Prop} {a b c : World} (h : Fr F a b) (k : Fr G b c) (hs : ∀ i, i < a.heap.size → G i → F i) : Fr F a c :=
  ⟨k.os.trans h.os, k.tape.trans h.tape, k.output.trans h.output, Nat.le_trans h.size k.size,
    fun i hi hf => (k.block i (Nat.lt_of_lt_of_le hi h.size) (fun hg => hf (hs i hi hg))).trans (h.block i hi hf)⟩
theorem Fr.drew {F : Nat → Prop} {a w : World} (h : Fr F a w) : Fr F a w.drew := ⟨h.os, h.tape, h.output, h.size, h.block⟩
theorem Fr.drewN {F : Nat → Prop} {a w : World} (h : Fr F a w) (n : Nat) : Fr F a (w.drewN n) := ⟨h.os, h.tape, h.output, h.size, h.block⟩
theorem Fr.alloc {F : Nat → Prop} {a w : World} (h : Fr F a w) (o : Obj) : Fr F a (w.alloc o) :=
  h.trans ⟨rfl, rfl, rfl, by simp, fun k hk _ => Below.heap_alloc _ _ _ hk⟩
theorem Fr.setCell {F : Nat → Prop} {a w : World} (h : Fr F a w) {p : Addr} (hp : a.heap.size ≤ p.block ∨ F p.block) (u : Value) : Fr F a (w.setCell p u) :=
  h.step (G := fun k => k = p.block) ⟨rfl, rfl, rfl, by simp [World.setCell], fun k _ hk => Below.heap_setCell _ _ _ _ hk⟩
    (fun i hi he => by subst he; rcases hp with hp | hp; exact absurd hi (by omega); exact hp)
theorem Fr.grown {F : Nat → Prop} {a w w' : World} {row : Option Nat} (h : Fr F a w) (hg : w.grownBy w' row) (hr : ∀ k, row = some k → a.heap.size ≤ k ∨ F k) : Fr F a w' :=
  h.step (G := fun k => some k = row) ⟨hg.os, hg.tape, hg.output, hg.size, fun k hk he => hg.block k hk he⟩
    (fun i hi he => by rcases hr i he.symm with h1 | h1; exact absurd hi (by omega); exact h1)
theorem Fr.of_below {w w' : World} (h : Below w.heap.size w w') : Fr Nob w w' := ⟨h.os, h.tape, h.output, h.size, fun k hk _ => h.block k hk⟩
theorem Fr.of_belowB {B : Nat} {w w' : World} (h : Below B w w') : Fr (fun k => B ≤ k) w w' := ⟨h.os, h.tape, h.output, h.size, fun k _ hf => h.block k (by omega)⟩
theorem Fr.below {F : Nat → Prop} {B : Nat} {w w' : World} (h : Fr F w w') (hB : B ≤ w.heap.size) (hF : ∀ i, F i → B ≤ i) : Below B w w' :=
  ⟨h.os, h.tape, h.output, h.size, fun k hk => h.block k (by omega) (fun hf => by have := hF k hf; omega)⟩
theorem Fr.cell {F : Nat → Prop} {w w' : World} (h : Fr F w w') {p : Addr} (hp : p.block < w.heap.size) (hf : ¬ F p.block) : w'.cell? p = w.cell? p := World.cell?_of_block (w := w) (h.block p.block hp hf)
theorem Fr.frozen {F : Nat → Prop} {w w' : World} (h : Fr F w w') {p : Addr} (hp : p.block < w.heap.size) (hf : ¬ F p.block) : w'.frozen? p = w.frozen? p := World.frozen?_of_block (w := w) (h.block p.block hp hf)

section
variable {w w' : World} {g : Nat} {t : TypeId} {cs : Array Value} {F : Nat → Prop}
theorem Blk.lt (h : Blk w g t cs) : g < w.heap.size := by
  rcases Nat.lt_or_ge g w.heap.size with hlt | hge
  · exact hlt
  · unfold Blk at h; rw [Array.getElem?_eq_none hge] at h; cases h
theorem Blk.cell (h : Blk w g t cs) (i : Nat) : w.cell? ⟨g, i, none⟩ = cs[i]? := cell_of_row w g i cs t (0, 0) h
theorem Blk.frozen (h : Blk w g t cs) (i : Nat) : w.frozen? ⟨g, i, none⟩ = false := by
  unfold Blk at h
  simp [World.frozen?, h]
theorem Blk.new (w : World) (t : TypeId) (cs : Array Value) : Blk (w.alloc (.cells cs t)) w.heap.size t cs := heap_alloc_new w _
theorem Blk.drew (h : Blk w g t cs) : Blk w.drew g t cs := h
theorem Blk.drewN (h : Blk w g t cs) (n : Nat) : Blk (w.drewN n) g t cs := h
theorem Blk.alloc (h : Blk w g t cs) (o : Obj) : Blk (w.alloc o) g t cs := (Below.heap_alloc w o g h.lt).trans h
theorem Blk.set_ (h : Blk w g t cs) (i : Nat) (u : Value) : Blk (w.setCell ⟨g, i, none⟩ u) g t (cs.setIfInBounds i u) := by
  unfold Blk at h ⊢
  simp [World.setCell, Array.getElem?_modify, h]
theorem Blk.far (h : Blk w g t cs) {p : Addr} (hp : g ≠ p.block) (u : Value) : Blk (w.setCell p u) g t cs := (Below.heap_setCell w p u g hp).trans h
theorem Blk.below {B : Nat} (h : Blk w g t cs) (hb : Below B w w') (hg : g < B) : Blk w' g t cs := (hb.block g hg).trans h
theorem Blk.grown {row : Option Nat} (h : Blk w g t cs) (hb : w.grownBy w' row) (hg : some g ≠ row) : Blk w' g t cs := (hb.block g h.lt hg).trans h
theorem Blk.fr (h : Blk w g t cs) (hb : Fr F w w') (hg : ¬ F g) : Blk w' g t cs := (hb.block g h.lt hg).trans h
theorem Blk.ne_ {g' : Nat} {t' : TypeId} {cs' : Array Value} (h : Blk w g t cs) (h' : Blk w g' t' cs') (hne : t ≠ t') : g ≠ g' := by
  rintro rfl
  unfold Blk at h h'
  rw [h] at h'
  injection h' with h'
  injection h' with _ ht
  exact hne ht
theorem Blk.own_ne {base : Nat} {e : TypeId} {size n : Nat} {v : Value} {xs : List Value} (hg : Blk w g t cs) (h : w.ownsRow base e size v n xs) (hne : t ≠ e) : some g ≠ v.ownBlock := by
  rcases h.2 with ⟨rfl, _⟩ | ⟨g', cap, cur, rfl, _, hh, _⟩
  · simp [Value.ownBlock]
  · intro he
    have he' : g = g' := by simpa [Value.ownBlock] using he
    subst he'
    exact Blk.ne_ (t := t) hg hh hne rfl
end

section
variable {w w' : World} {base : Nat} {e : TypeId} {size n : Nat} {v : Value} {xs : List Value} {F : Nat → Prop}
theorem own_fr (h : w.ownsRow base e size v n xs) (hf : Fr F w w') (hv : ∀ g, v.ownBlock = some g → ¬ F g) : w'.ownsRow base e size v n xs := by
  refine ⟨h.1, ?_⟩
  rcases h.2 with h2 | ⟨g, cap, cur, rfl, hg, hh, r⟩
  · exact .inl h2
  · exact .inr ⟨g, cap, cur, rfl, hg, by rw [hf.block g (Blk.lt hh) (hv g rfl)]; exact hh, r⟩
theorem own_base (h : w.ownsRow base e size v n xs) {base' : Nat} (hb : ∀ g, v.ownBlock = some g → base' ≤ g) : w.ownsRow base' e size v n xs := by
  refine ⟨h.1, ?_⟩
  rcases h.2 with h2 | ⟨g, cap, cur, rfl, hg, r⟩
  · exact .inl h2
  · exact .inr ⟨g, cap, cur, rfl, hb g rfl, r⟩
/-- A store into a block of another kind. -/
theorem own_set {g : Nat} {t : TypeId} {cs : Array Value} {i : Nat} {u : Value} (h : w.ownsRow base e size v n xs) (hb : Blk w g t cs) (hne : t ≠ e) : (w.setCell ⟨g, i, none⟩ u).ownsRow base e size v n xs :=
  own_fr h ((Fr.refl (fun k => k = g) w).setCell (.inr rfl) u) (fun g' hv he => by subst he; exact Blk.own_ne hb h hne (by rw [hv]))
theorem own_lt (h : w.ownsRow base e size v n xs) {g : Nat} (hv : v.ownBlock = some g) : g < w.heap.size := (h.lt g hv).2
end

/-- A row of bytes as cells. -/
def bts (s : List UInt8) : List Value := s.map fun x => .int .u8 x.toNat
theorem bts_length (s : List UInt8) : (bts s).length = s.length := by simp [bts]
theorem bts_one (s : List UInt8) : ∀ u ∈ bts s, u.oneCell' = true := by
  intro u hu
  simp only [bts, List.mem_map] at hu
  obtain ⟨x, _, rfl⟩ := hu
  rfl
theorem bts_get (s : List UInt8) (i : Nat) : (bts s)[i]? = s[i]?.map fun x => Value.int .u8 x.toNat := by simp [bts]
theorem bts_append (a b : List UInt8) : bts (a ++ b) = bts a ++ bts b := by simp [bts]

theorem madeCells_toArray (z : Value) (n : Nat) : madeCells #[z] n = (List.replicate n z).toArray := by
  rw [← toList_madeCells_one]

theorem cell_lt {w : World} {a : Addr} {v : Value} (h : w.cell? a = some v) : a.block < w.heap.size := by
  rcases Nat.lt_or_ge a.block w.heap.size with hlt | hge
  · exact hlt
  · unfold World.cell? at h; rw [Array.getElem?_eq_none hge] at h; cases h

theorem wf_i64 {x : Int} (h0 : -9223372036854775808 ≤ x) (h1 : x ≤ 9223372036854775807) : (Lit.int .i64 x).wf = true := by
  have e0 : IntKind.i64.min = -9223372036854775808 := by decide
  have e1 : IntKind.i64.max = 9223372036854775807 := by decide
  simp only [Lit.wf, e0, e1, Bool.and_eq_true, decide_eq_true_eq]
  exact ⟨h0, h1⟩

theorem i64_mask (n m : Int) (k : Nat) (hm : (BitVec.ofInt 64 m).toNat = 2 ^ k - 1) (hk : (2 : Nat) ^ k ∣ 2 ^ 64) (hk2 : (2 : Nat) ^ k ≤ 2 ^ 62) : bits .and .i64 n m = n % ((2 ^ k : Nat) : Int) := by
  have key : (BitVec.ofInt 64 n &&& BitVec.ofInt 64 m).toNat = (n % ((2 ^ 64 : Nat) : Int)).toNat % 2 ^ k := by
    rw [BitVec.toNat_and, BitVec.toNat_ofInt, hm, Nat.and_two_pow_sub_one_eq_mod]
  show IntKind.i64.wrap ((BitVec.ofInt 64 n &&& BitVec.ofInt 64 m).toNat : Nat) = _
  rw [key, IntKind.wrap_i64]
  have h0 : (0 : Int) ≤ n % ((2 ^ 64 : Nat) : Int) := Int.emod_nonneg _ (by decide)
  have hpos : (0 : Nat) < 2 ^ k := Nat.two_pow_pos k
  have hlt : (n % ((2 ^ 64 : Nat) : Int)).toNat % 2 ^ k < 2 ^ k := Nat.mod_lt _ hpos
  have e : (((n % ((2 ^ 64 : Nat) : Int)).toNat % 2 ^ k : Nat) : Int) = n % ((2 ^ k : Nat) : Int) := by
    rw [Int.natCast_emod, Int.toNat_of_nonneg h0]
    exact Int.emod_emod_of_dvd n (by exact_mod_cast hk)
  have h62 : (2 : Nat) ^ 62 = 4611686018427387904 := by decide
  omega

end Go.Proofs.YtccmmnacejdeoaaGreatDoor

/-
  How a disk lies in memory: what a *disk.Disk stands for (DS), and that this is kept where nothing of its blocks changes.
-/
namespace Go.Proofs.YtccmmnacejdeoaaGreatDoor
set_option linter.unusedSimpArgs false
set_option linter.unusedVariables false
open Go.RowKit

def nought : List UInt8 := List.replicate 64 0

/-- A disk, as the document sees it: what is read, what is durable, what waits. -/
structure DS where
  now : List (List UInt8)
  last : List (List UInt8)
  waits : List (Nat × List UInt8)
  writes : Int
  fuse : Int
  dead : Bool

/-- A value that stands for a sector: nil for noughts, or a row of 64 bytes within R. -/
def Sec (R : Nat → Prop) (w : World) (v : Value) (s : List UInt8) : Prop :=
  s.length = 64 ∧ ((v = .slice none 0 0 ∧ s = nought) ∨ (w.ownsRow 0 5 1 v 64 (bts s) ∧ ∀ g, v.ownBlock = some g → R g))

theorem Sec.fr {R F : Nat → Prop} {w w' : World} {v : Value} {s : List UInt8} (h : Sec R w v s) (hf : Fr F w w') (hd : ∀ b, b < w.heap.size → R b → ¬ F b) : Sec R w' v s := by
  refine ⟨h.1, ?_⟩
  rcases h.2 with h2 | ⟨h2, h3⟩
  · exact .inl h2
  · exact .inr ⟨own_fr h2 hf (fun g hg => hd g (own_lt h2 hg) (h3 g hg)), h3⟩
theorem Sec.more {R R' : Nat → Prop} {w : World} {v : Value} {s : List UInt8} (h : Sec R w v s) (hd : ∀ b, b < w.heap.size → R b → R' b) : Sec R' w v s := by
  refine ⟨h.1, ?_⟩
  rcases h.2 with h2 | ⟨h2, h3⟩
  · exact .inl h2
  · exact .inr ⟨h2, fun g hg => hd g (own_lt h2 hg) (h3 g hg)⟩
/-- Kept where only rows of other kinds change. -/
theorem Sec.far {R F : Nat → Prop} {w w' : World} {v : Value} {s : List UInt8} (h : Sec R w v s) (hf : Fr F w w') (hd : ∀ b, F b → b < w.heap.size → ∃ t cs, Blk w b t cs ∧ t ≠ 5) : Sec R w' v s := by
  refine ⟨h.1, ?_⟩
  rcases h.2 with h2 | ⟨h2, h3⟩
  · exact .inl h2
  · refine .inr ⟨own_fr h2 hf (fun g hg hF => ?_), h3⟩
    obtain ⟨t, cs, hb, ht⟩ := hd g hF (own_lt h2 hg)
    exact Blk.own_ne hb h2 ht (by rw [hg])
theorem Sec.form {R : Nat → Prop} {w : World} {v : Value} {s : List UInt8} (h : Sec R w v s) : ∃ A n c, v = .slice A n c := by
  rcases h.2 with ⟨e, _⟩ | ⟨ho, _⟩
  · exact ⟨_, _, _, e⟩
  · obtain ⟨g, cap, e, _⟩ := ho.form (by omega)
    exact ⟨_, _, _, e⟩

/-- The first cells of a row stand for sectors. -/
def Secs (R : Nat → Prop) (w : World) (vs : List Value) (ss : List (List UInt8)) : Prop :=
  ss.length ≤ vs.length ∧ ∀ (i : Nat) v s, vs[i]? = some v → ss[i]? = some s → Sec R w v s

def waitCells (ws : List (Nat × Value)) : List Value := ws.flatMap fun x => [.int .i64 x.1, x.2]

def Waits (R : Nat → Prop) (w : World) (n : Nat) (ws : List (Nat × Value)) (ss : List (Nat × List UInt8)) : Prop :=
  ws.length = ss.length ∧ ∀ (i : Nat) x y, ws[i]? = some x → ss[i]? = some y → x.1 = y.1 ∧ x.1 < n ∧ Sec R w x.2 y.2

/-- The blocks of R that a disk may write: none that holds bytes. -/
def Mut (R : Nat → Prop) (w : World) : Nat → Prop := fun b => R b ∧ ¬ ∃ cs, Blk w b 5 cs
def FrD (R : Nat → Prop) (w w' : World) : Prop := Fr (Mut R w) w w'
theorem FrD.fr {R : Nat → Prop} {w w' : World} (h : FrD R w w') : Fr R w w' := Fr.mono h (fun _ _ h => h.1)
theorem not_u8 {w : World} {b : Nat} {t : TypeId} {cs : Array Value} (h : Blk w b t cs) (ht : t ≠ 5) : ¬ ∃ cs, Blk w b 5 cs := fun ⟨_, h2⟩ => Blk.ne_ h h2 ht rfl
theorem FrD.step {F R R' : Nat → Prop} {a b c : World} (h : Fr F a b) (hF : ∀ i, F i → Mut R a i) (k : FrD R' b c) (hR : ∀ i, i < a.heap.size → R' i → R i) : FrD R a c :=
  (h.mono (fun i _ hi => hF i hi)).step k (fun i hi ⟨h1, h2⟩ => ⟨hR i hi h1, fun ⟨cs, hcs⟩ => h2 ⟨cs, hcs.fr h (fun hf => (hF i hf).2 ⟨cs, hcs⟩)⟩⟩)
theorem FrD.step' {R F : Nat → Prop} {a b c : World} (h : FrD R a b) (k : Fr F b c) (hs : ∀ i, i < a.heap.size → F i → Mut R a i) : FrD R a c := Fr.step h k hs
theorem FrD.u8 {R : Nat → Prop} {w w' : World} {b : Nat} {cs : Array Value} (h : FrD R w w') (hb : Blk w b 5 cs) : Blk w' b 5 cs := hb.fr h (fun ⟨_, h2⟩ => h2 ⟨_, hb⟩)

/-- The cells of a disk, all of them within R. -/
structure DiskAt (R : Nat → Prop) (w : World) (p nb lb : Nat) (nv lv : List Value) (wv : Value) (ws : List (Nat × Value)) (S : DS) : Prop where
  blk : Blk w p 98 #[.slice (some ⟨nb, 0, none⟩) S.now.length nv.length, .slice (some ⟨lb, 0, none⟩) S.now.length lv.length, wv, .int .i64 S.writes, .int .i64 S.fuse, .bool S.dead]
  bnow : Blk w nb 38 nv.toArray
  blast : Blk w lb 38 lv.toArray
  ne : nb ≠ lb
  own : w.ownsRow 0 103 2 wv ws.length (waitCells ws)
  rp : R p
  rn : R nb
  rl : R lb
  rw : ∀ g, wv.ownBlock = some g → R g
  lt : ∀ b, R b → b < w.heap.size
  llen : S.last.length = S.now.length
  pos : 0 < S.now.length
  small : S.now.length ≤ 65536
  now : Secs R w nv S.now
  last : Secs R w lv S.last
  waits : Waits R w S.now.length ws S.waits
  fuse0 : -1 ≤ S.fuse
  fuse1 : S.fuse ≤ 9223372036854775807

def DiskOk (R : Nat → Prop) (w : World) (p : Nat) (S : DS) : Prop :=
  ∃ nb lb nv lv wv ws, DiskAt R w p nb lb nv lv wv ws S

theorem DiskAt.fr {R F : Nat → Prop} {w w' : World} {p nb lb : Nat} {nv lv : List Value} {wv : Value} {ws : List (Nat × Value)} {S : DS} (h : DiskAt R w p nb lb nv lv wv ws S) (hf : Fr F w w') (hd : ∀ b, R b → ¬ F b) :
    DiskAt R w' p nb lb nv lv wv ws S :=
  { h with
    blk := h.blk.fr hf (hd _ h.rp)
    bnow := h.bnow.fr hf (hd _ h.rn)
    blast := h.blast.fr hf (hd _ h.rl)
    own := own_fr h.own hf (fun g hg => hd g (h.rw g hg))
    lt := fun b hb => Nat.lt_of_lt_of_le (h.lt b hb) hf.size
    now := ⟨h.now.1, fun i v s hv hs => (h.now.2 i v s hv hs).fr hf (fun b _ hb => hd b hb)⟩
    last := ⟨h.last.1, fun i v s hv hs => (h.last.2 i v s hv hs).fr hf (fun b _ hb => hd b hb)⟩
    waits := ⟨h.waits.1, fun i x y hx hy => ⟨(h.waits.2 i x y hx hy).1, (h.waits.2 i x y hx hy).2.1, (h.waits.2 i x y hx hy).2.2.fr hf (fun b _ hb => hd b hb)⟩⟩ }

theorem DiskOk.fr {R F : Nat → Prop} {w w' : World} {p : Nat} {S : DS} (h : DiskOk R w p S) (hf : Fr F w w') (hd : ∀ b, R b → ¬ F b) : DiskOk R w' p S := by
  obtain ⟨nb, lb, nv, lv, wv, ws, h⟩ := h
  exact ⟨nb, lb, nv, lv, wv, ws, h.fr hf hd⟩
theorem DiskOk.lt {R : Nat → Prop} {w : World} {p : Nat} {S : DS} (h : DiskOk R w p S) {b : Nat} (hb : R b) : b < w.heap.size := by
  obtain ⟨nb, lb, nv, lv, wv, ws, h⟩ := h
  exact h.lt b hb
theorem DiskOk.lens {R : Nat → Prop} {w : World} {p : Nat} {S : DS} (h : DiskOk R w p S) : S.last.length = S.now.length := by
  obtain ⟨nb, lb, nv, lv, wv, ws, h⟩ := h
  exact h.llen
theorem DiskOk.pos {R : Nat → Prop} {w : World} {p : Nat} {S : DS} (h : DiskOk R w p S) : 0 < S.now.length := by
  obtain ⟨nb, lb, nv, lv, wv, ws, h⟩ := h
  exact h.pos
theorem DiskOk.new {R : Nat → Prop} {w w' : World} {p : Nat} {S : DS} (h : DiskOk R w p S) (hf : Fr Nob w w') : DiskOk R w' p S := h.fr hf (fun _ _ h => h)

theorem DiskAt.more {R R' : Nat → Prop} {w : World} {p nb lb : Nat} {nv lv : List Value} {wv : Value} {ws : List (Nat × Value)} {S : DS} (h : DiskAt R w p nb lb nv lv wv ws S) (hm : ∀ b, R b → R' b) (hl : ∀ b, R' b → b < w.heap.size) :
    DiskAt R' w p nb lb nv lv wv ws S :=
  { h with
    rp := hm _ h.rp
    rn := hm _ h.rn
    rl := hm _ h.rl
    rw := fun g hg => hm _ (h.rw g hg)
    lt := hl
    now := ⟨h.now.1, fun i v s hv hs => (h.now.2 i v s hv hs).more (fun b _ hb => hm b hb)⟩
    last := ⟨h.last.1, fun i v s hv hs => (h.last.2 i v s hv hs).more (fun b _ hb => hm b hb)⟩
    waits := ⟨h.waits.1, fun i x y hx hy => ⟨(h.waits.2 i x y hx hy).1, (h.waits.2 i x y hx hy).2.1, (h.waits.2 i x y hx hy).2.2.more (fun b _ hb => hm b hb)⟩⟩ }

/-- The blocks of a disk behind a call that made some. -/
def Ext (R : Nat → Prop) (w w' : World) : Nat → Prop := fun b => R b ∨ (w.heap.size ≤ b ∧ b < w'.heap.size)

/-- What a disk's one-cell changes come to: the number of writes, the fuse, whether it is dead. -/
theorem DiskAt.small_set {R : Nat → Prop} {w w' : World} {p nb lb : Nat} {nv lv : List Value} {wv : Value} {ws : List (Nat × Value)} {S : DS} (h : DiskAt R w p nb lb nv lv wv ws S) (hf : Fr (fun k => k = p) w w')
    (W F : Int) (D : Bool) (hF0 : -1 ≤ F) (hF1 : F ≤ 9223372036854775807)
    (hb : Blk w' p 98 #[.slice (some ⟨nb, 0, none⟩) S.now.length nv.length, .slice (some ⟨lb, 0, none⟩) S.now.length lv.length, wv, .int .i64 W, .int .i64 F, .bool D]) :
    DiskAt R w' p nb lb nv lv wv ws { S with writes := W, fuse := F, dead := D } := by
  have hne1 : ¬ nb = p := Blk.ne_ h.bnow h.blk (by decide)
  have hne2 : ¬ lb = p := Blk.ne_ h.blast h.blk (by decide)
  have hs : ∀ v s, Sec R w v s → Sec R w' v s := fun v s hv => hv.far hf (fun b hb _ => by subst hb; exact ⟨_, _, h.blk, by decide⟩)
  exact { h with
    blk := hb
    bnow := h.bnow.fr hf hne1
    blast := h.blast.fr hf hne2
    own := own_fr h.own hf (fun g hg he => by subst he; exact Blk.own_ne h.blk h.own (by decide) (by rw [hg]))
    lt := fun b hb => Nat.lt_of_lt_of_le (h.lt b hb) hf.size
    now := ⟨h.now.1, fun i v s hv hs' => hs v s (h.now.2 i v s hv hs')⟩
    last := ⟨h.last.1, fun i v s hv hs' => hs v s (h.last.2 i v s hv hs')⟩
    waits := ⟨h.waits.1, fun i x y hx hy => ⟨(h.waits.2 i x y hx hy).1, (h.waits.2 i x y hx hy).2.1, hs _ _ (h.waits.2 i x y hx hy).2.2⟩⟩
    fuse0 := hF0
    fuse1 := hF1 }

theorem own_blk {w : World} {base : Nat} {e : TypeId} {size n : Nat} {v : Value} {xs : List Value} {g : Nat} (h : w.ownsRow base e size v n xs) (hv : v.ownBlock = some g) : ∃ cs, Blk w g e cs := by
  rcases h.2 with ⟨rfl, _⟩ | ⟨g', cap, cur, rfl, _, hh, _⟩
  · simp [Value.ownBlock] at hv
  · have : g' = g := by simpa [Value.ownBlock] using hv
    subst this
    exact ⟨cur, hh⟩

def DS.wr0 (S : DS) (i : Nat) (s : List UInt8) : DS := { S with now := S.now.set i s, waits := S.waits ++ [(i, s)], writes := wrap64 (S.writes + 1) }

theorem waitCells_snoc (ws : List (Nat × Value)) (x : Nat × Value) : waitCells (ws ++ [x]) = waitCells ws ++ [.int .i64 x.1, x.2] := by simp [waitCells]

/-- What Write leaves ahead of the fuse. -/
theorem write_shape {R : Nat → Prop} {w1 w2 : World} {p nb lb : Nat} {nv lv : List Value} {wv : Value} {ws : List (Nat × Value)} {S : DS} (h : DiskAt R w1 p nb lb nv lv wv ws S)
    (B g cap : Nat) (i : Nat) (s : List UInt8) (hi : i < S.now.length) (hs : s.length = 64) (hR : ∀ b, R b → b < B)
    (hown : w1.ownsRow B 5 1 (.slice (some ⟨g, 0, none⟩) 64 cap) 64 (bts s)) (v' : Value)
    (hg : ((w1.setCell ⟨nb, i, none⟩ (.slice (some ⟨g, 0, none⟩) 64 cap)).alloc (.cells #[.int .i64 i, .slice (some ⟨g, 0, none⟩) 64 cap] 103)).grownBy w2 wv.ownBlock)
    (hown' : w2.ownsRow 0 103 2 v' (ws.length + 1) (waitCells ws ++ [.int .i64 i, .slice (some ⟨g, 0, none⟩) 64 cap]))
    (hat : v'.ownBlock = wv.ownBlock ∨ v'.ownBlock = some (w1.heap.size + 1)) (hB : B ≤ w1.heap.size)
    (w4 : World) (hw : w4 = (w2.setCell ⟨p, 2, none⟩ v').setCell ⟨p, 3, none⟩ (.int .i64 (wrap64 (S.writes + 1)))) :
    DiskAt (fun b => R b ∨ (B ≤ b ∧ b < w4.heap.size)) w4 p nb lb (nv.set i (.slice (some ⟨g, 0, none⟩) 64 cap)) lv v' (ws ++ [(i, .slice (some ⟨g, 0, none⟩) 64 cap)]) (S.wr0 i s) ∧
      FrD R w1 w4 := by
  have hpn : ¬ p = nb := Blk.ne_ h.blk h.bnow (by decide)
  have hln : ¬ lb = nb := fun e => h.ne e.symm
  have hpl : ¬ lb = p := Blk.ne_ h.blast h.blk (by decide)
  have f2 : Fr (fun k => k = nb ∨ some k = wv.ownBlock) w1 w2 :=
    ((((Fr.refl _ w1).setCell (p := ⟨nb, i, none⟩) (.inr (.inl rfl)) _).alloc _).grown hg (fun k hk => .inr (.inr hk.symm)))
  have f4 : Fr (fun k => k = p ∨ k = nb ∨ some k = wv.ownBlock) w1 w4 := by
    subst hw
    exact ((f2.mono (fun k _ hk => .inr hk)).setCell (p := ⟨p, 2, none⟩) (.inr (.inl rfl)) _).setCell (p := ⟨p, 3, none⟩) (.inr (.inl rfl)) _
  have fR : FrD R w1 w4 := f4.mono (fun k _ hk => by
    rcases hk with rfl | rfl | hk
    · exact ⟨h.rp, not_u8 h.blk (by decide)⟩
    · exact ⟨h.rn, not_u8 h.bnow (by decide)⟩
    · obtain ⟨cs, hcs⟩ := own_blk h.own hk.symm
      exact ⟨h.rw k hk.symm, not_u8 hcs (by decide)⟩)
  have hsz : w2.heap.size = w4.heap.size := by subst hw; simp [World.setCell]
  have hz1 : w1.heap.size + 1 ≤ w2.heap.size := by have := hg.size; simp at this; simpa [World.setCell] using this
  have far : ∀ b, (b = p ∨ b = nb ∨ some b = wv.ownBlock) → b < w1.heap.size → ∃ t cs, Blk w1 b t cs ∧ t ≠ 5 := by
    rintro b (rfl | rfl | hb) _
    · exact ⟨_, _, h.blk, by decide⟩
    · exact ⟨_, _, h.bnow, by decide⟩
    · obtain ⟨cs, hcs⟩ := own_blk h.own hb.symm
      exact ⟨_, _, hcs, by decide⟩
  have sec : ∀ v s', Sec R w1 v s' → Sec (fun b => R b ∨ (B ≤ b ∧ b < w4.heap.size)) w4 v s' := fun v s' hv =>
    (hv.far f4 far).more (fun b _ hb => .inl hb)
  have gB : B ≤ g ∧ g < w1.heap.size := hown.lt g rfl
  have sec1 : Sec (fun b => R b ∨ (B ≤ b ∧ b < w4.heap.size)) w4 (.slice (some ⟨g, 0, none⟩) 64 cap) s := by
    have h0 : Sec (fun b => b = g) w1 (.slice (some ⟨g, 0, none⟩) 64 cap) s := ⟨hs, .inr ⟨own_base hown (fun _ _ => Nat.zero_le _), fun k hk => by simpa [Value.ownBlock] using hk.symm⟩⟩
    refine (h0.far f4 far).more (fun b hb e => ?_)
    subst e
    exact .inr ⟨gB.1, by omega⟩
  refine ⟨?_, fR⟩
  exact {
    blk := by
      subst hw
      have b2 := ((h.blk.far (p := ⟨nb, i, none⟩) hpn (.slice (some ⟨g, 0, none⟩) 64 cap)).alloc (.cells #[.int .i64 i, .slice (some ⟨g, 0, none⟩) 64 cap] 103)).grown hg (Blk.own_ne h.blk h.own (by decide))
      rw [List.length_set, show (S.wr0 i s).now.length = S.now.length from by simp [DS.wr0]]
      exact (b2.set_ 2 v').set_ 3 _
    bnow := by
      subst hw
      have b1 := h.bnow.set_ i (.slice (some ⟨g, 0, none⟩) 64 cap)
      rw [List.setIfInBounds_toArray] at b1
      have b2 := (b1.alloc (.cells #[.int .i64 i, .slice (some ⟨g, 0, none⟩) 64 cap] 103)).grown hg (Blk.own_ne h.bnow h.own (by decide))
      exact (b2.far (p := ⟨p, 2, none⟩) (fun e => hpn e.symm) _).far (p := ⟨p, 3, none⟩) (fun e => hpn e.symm) _
    blast := h.blast.fr f4 (by
      rintro (e | e | e)
      · exact hpl e
      · exact hln e
      · exact Blk.own_ne h.blast h.own (by decide) e)
    ne := h.ne
    own := by
      rw [waitCells_snoc, List.length_append]
      have b2 := ((h.blk.far (p := ⟨nb, i, none⟩) hpn (.slice (some ⟨g, 0, none⟩) 64 cap)).alloc (.cells #[.int .i64 i, .slice (some ⟨g, 0, none⟩) 64 cap] 103)).grown hg (Blk.own_ne h.blk h.own (by decide))
      subst hw
      exact own_set (own_set hown' b2 (by decide)) (b2.set_ 2 v') (by decide)
    rp := .inl h.rp
    rn := .inl h.rn
    rl := .inl h.rl
    rw := fun k hk => by
      rcases hat with e | e
      · exact .inl (h.rw k (by rw [← e]; exact hk))
      · have hk' := own_lt hown' hk
        rw [e] at hk
        injection hk with hk
        exact .inr ⟨by omega, by omega⟩
    lt := fun b hb => by
      rcases hb with hb | hb
      · have := h.lt b hb; have := f4.size; omega
      · exact hb.2
    llen := by simp only [DS.wr0, List.length_set]; exact h.llen
    pos := by simp only [DS.wr0, List.length_set]; exact h.pos
    small := by simp only [DS.wr0, List.length_set]; exact h.small
    now := by
      refine ⟨by simp [DS.wr0, h.now.1], fun j v s' hv hs' => ?_⟩
      simp only [DS.wr0] at hs'
      rw [List.getElem?_set] at hv hs'
      by_cases hj : i = j
      · subst hj
        rw [if_pos rfl, if_pos (Nat.lt_of_lt_of_le hi h.now.1)] at hv
        rw [if_pos rfl, if_pos hi] at hs'
        injection hv with hv
        injection hs' with hs'
        subst hv hs'
        exact sec1
      · rw [if_neg hj] at hv hs'
        exact sec v s' (h.now.2 j v s' hv hs')
    last := ⟨h.last.1, fun j v s' hv hs' => sec v s' (h.last.2 j v s' hv hs')⟩
    waits := by
      refine ⟨by simp [DS.wr0, h.waits.1], fun j x y hx hy => ?_⟩
      simp only [DS.wr0] at hy
      rw [show (S.wr0 i s).now.length = S.now.length from by simp [DS.wr0]]
      rw [List.getElem?_append] at hx hy
      rw [h.waits.1] at hx
      by_cases hj : j < S.waits.length
      · rw [if_pos hj] at hx hy
        obtain ⟨e1, e2, e3⟩ := h.waits.2 j x y hx hy
        exact ⟨e1, e2, sec _ _ e3⟩
      · rw [if_neg hj] at hx hy
        have : j - S.waits.length = 0 := by
          have := (List.getElem?_eq_some_iff.1 hx).1
          simp at this
          omega
        rw [this] at hx hy
        simp at hx hy
        subst hx hy
        exact ⟨rfl, hi, sec1⟩
    fuse0 := h.fuse0
    fuse1 := h.fuse1 }

def setAll {α : Type} (l : List α) (ws : List (Nat × α)) : List α := ws.foldl (fun l x => l.set x.1 x.2) l
theorem setAll_length {α : Type} (l : List α) (ws : List (Nat × α)) : (setAll l ws).length = l.length := by
  unfold setAll
  induction ws generalizing l with
  | nil => rfl
  | cons x ws ih => rw [List.foldl_cons, ih, List.length_set]
theorem setAll_snoc {α : Type} (l : List α) (ws : List (Nat × α)) (x : Nat × α) : setAll l (ws ++ [x]) = (setAll l ws).set x.1 x.2 := by simp [setAll]
theorem setAll_take {α : Type} (l : List α) (ws : List (Nat × α)) (k : Nat) (h : k < ws.length) : setAll l (ws.take (k + 1)) = (setAll l (ws.take k)).set ws[k].1 ws[k].2 := by
  rw [← setAll_snoc, List.take_add_one, List.getElem?_eq_getElem h]; rfl


theorem Secs.set {R : Nat → Prop} {w : World} {vs : List Value} {ss : List (List UInt8)} (h : Secs R w vs ss) (i : Nat) (v : Value) (s : List UInt8) (hv : Sec R w v s) : Secs R w (vs.set i v) (ss.set i s) := by
  refine ⟨by simpa using h.1, fun j v' s' h1 h2 => ?_⟩
  rw [List.getElem?_set] at h1 h2
  by_cases hj : i = j
  · subst hj
    by_cases hl : i < ss.length
    · rw [if_pos rfl, if_pos (Nat.lt_of_lt_of_le hl h.1)] at h1
      rw [if_pos rfl, if_pos hl] at h2
      injection h1 with h1
      injection h2 with h2
      subst h1 h2
      exact hv
    · rw [if_pos rfl, if_neg hl] at h2
      cases h2
  · rw [if_neg hj] at h1 h2
    exact h.2 j v' s' h1 h2
theorem Secs.all_set {R : Nat → Prop} {w : World} {n : Nat} (ws : List (Nat × Value)) (xs : List (Nat × List UInt8)) (hw : Waits R w n ws xs) :
    ∀ {vs : List Value} {ss : List (List UInt8)}, Secs R w vs ss → Secs R w (setAll vs ws) (setAll ss xs) := by
  induction ws generalizing xs with
  | nil =>
    intro vs ss h
    have : xs = [] := List.eq_nil_of_length_eq_zero (by rw [← hw.1]; rfl)
    subst this
    exact h
  | cons x ws ih =>
    intro vs ss h
    cases xs with
    | nil => have := hw.1; simp at this
    | cons y xs =>
      obtain ⟨e1, e2, e3⟩ := hw.2 0 x y rfl rfl
      have hw' : Waits R w n ws xs := ⟨by have := hw.1; simpa using this, fun i a b ha hb => hw.2 (i + 1) a b ha hb⟩
      have h' := h.set x.1 x.2 y.2 e3
      have := ih xs hw' h'
      simp only [setAll, List.foldl_cons] at this ⊢
      rw [← e1]
      exact this

def DS.flush0 (S : DS) : DS := { S with last := setAll S.last S.waits, waits := [] }

/-- What Flush leaves ahead of the fuse. -/
theorem flush_shape {R : Nat → Prop} {w wr : World} {p nb lb : Nat} {nv lv : List Value} {wv : Value} {ws : List (Nat × Value)} {S : DS} (h : DiskAt R w p nb lb nv lv wv ws S)
    (hf : Fr (fun b => b = lb) w wr) (hb : Blk wr lb 38 (setAll lv ws).toArray) (w4 : World) (hw : w4 = wr.setCell ⟨p, 2, none⟩ (.slice none 0 0)) :
    DiskAt R w4 p nb lb nv (setAll lv ws) (.slice none 0 0) [] S.flush0 ∧ FrD R w w4 := by
  have hpl : ¬ p = lb := Blk.ne_ h.blk h.blast (by decide)
  have hpn : ¬ nb = p := Blk.ne_ h.bnow h.blk (by decide)
  have f4 : Fr (fun k => k = p ∨ k = lb) w w4 := by
    subst hw
    exact (hf.mono (fun k _ hk => .inr hk)).setCell (p := ⟨p, 2, none⟩) (.inr (.inl rfl)) _
  have fR : FrD R w w4 := f4.mono (fun k _ hk => by
    rcases hk with rfl | rfl
    · exact ⟨h.rp, not_u8 h.blk (by decide)⟩
    · exact ⟨h.rl, not_u8 h.blast (by decide)⟩)
  have sec : ∀ v s', Sec R w v s' → Sec R w4 v s' := fun v s' hv => hv.far f4 (by
    rintro b (rfl | rfl) _
    · exact ⟨_, _, h.blk, by decide⟩
    · exact ⟨_, _, h.blast, by decide⟩)
  have hw4 : Waits R w4 S.now.length ws S.waits := ⟨h.waits.1, fun i x y hx hy => ⟨(h.waits.2 i x y hx hy).1, (h.waits.2 i x y hx hy).2.1, sec _ _ (h.waits.2 i x y hx hy).2.2⟩⟩
  have hl4 : Secs R w4 lv S.last := ⟨h.last.1, fun i v s hv hs => sec v s (h.last.2 i v s hv hs)⟩
  refine ⟨?_, fR⟩
  exact {
    blk := by
      subst hw
      rw [setAll_length]
      exact (h.blk.fr hf hpl).set_ 2 _
    bnow := h.bnow.fr f4 (by
      rintro (e | e)
      · exact hpn e
      · exact h.ne e)
    blast := by
      subst hw
      exact hb.far (p := ⟨p, 2, none⟩) (fun e => hpl e.symm) _
    ne := h.ne
    own := World.ownsRow_nil _ _ _ _
    rp := h.rp
    rn := h.rn
    rl := h.rl
    rw := by simp [Value.ownBlock]
    lt := fun b hb => Nat.lt_of_lt_of_le (h.lt b hb) f4.size
    llen := by simp only [DS.flush0]; rw [setAll_length]; exact h.llen
    pos := h.pos
    small := h.small
    now := ⟨h.now.1, fun i v s hv hs => sec v s (h.now.2 i v s hv hs)⟩
    last := Secs.all_set ws S.waits hw4 hl4
    waits := ⟨rfl, fun i x y hx => by simp at hx⟩
    fuse0 := h.fuse0
    fuse1 := h.fuse1 }

theorem waitCells_get (ws : List (Nat × Value)) (k : Nat) (h : k < ws.length) : (waitCells ws)[k * 2]? = some (.int .i64 ws[k].1) ∧ (waitCells ws)[k * 2 + 1]? = some ws[k].2 := by
  induction ws generalizing k with
  | nil => simp at h
  | cons x ws ih =>
    cases k with
    | zero => simp [waitCells]
    | succ k =>
      have hk : k < ws.length := by simpa using h
      have := ih k hk
      simp only [waitCells, List.flatMap_cons, List.cons_append, List.nil_append] at this ⊢
      rw [show (k + 1) * 2 = k * 2 + 1 + 1 from by omega]
      simpa using this

/-- What Crash leaves. -/
theorem crash_shape {R : Nat → Prop} {w w4 : World} {p nb lb : Nat} {nv lv nv' : List Value} {wv : Value} {ws ws' : List (Nat × Value)} {xs' : List (Nat × List UInt8)} {S : DS} (h : DiskAt R w p nb lb nv lv wv ws S)
    (hw' : Waits R w S.now.length ws' xs') (hf : Fr (fun b => b = p ∨ b = nb ∨ b = lb) w w4)
    (hp : Blk w4 p 98 #[.slice (some ⟨nb, 0, none⟩) S.now.length nv.length, .slice (some ⟨lb, 0, none⟩) S.now.length lv.length, .slice none 0 0, .int .i64 S.writes, .int .i64 (-1), .bool false])
    (hn : Blk w4 nb 38 nv'.toArray) (hn1 : nv'.length = nv.length) (hn2 : ∀ i, i < S.now.length → nv'[i]? = (setAll lv ws')[i]?) (hl : Blk w4 lb 38 (setAll lv ws').toArray) :
    DiskAt R w4 p nb lb nv' (setAll lv ws') (.slice none 0 0) [] { S with now := setAll S.last xs', last := setAll S.last xs', waits := [], fuse := -1, dead := false } ∧ FrD R w w4 := by
  have hlen : (setAll S.last xs').length = S.now.length := by rw [setAll_length]; exact h.llen
  have fR : FrD R w w4 := hf.mono (fun k _ hk => by
    rcases hk with rfl | rfl | rfl
    · exact ⟨h.rp, not_u8 h.blk (by decide)⟩
    · exact ⟨h.rn, not_u8 h.bnow (by decide)⟩
    · exact ⟨h.rl, not_u8 h.blast (by decide)⟩)
  have sec : ∀ v s', Sec R w v s' → Sec R w4 v s' := fun v s' hv => hv.far hf (by
    rintro b (rfl | rfl | rfl) _
    · exact ⟨_, _, h.blk, by decide⟩
    · exact ⟨_, _, h.bnow, by decide⟩
    · exact ⟨_, _, h.blast, by decide⟩)
  have hw4 : Waits R w4 S.now.length ws' xs' := ⟨hw'.1, fun i x y hx hy => ⟨(hw'.2 i x y hx hy).1, (hw'.2 i x y hx hy).2.1, sec _ _ (hw'.2 i x y hx hy).2.2⟩⟩
  have hl4 : Secs R w4 lv S.last := ⟨h.last.1, fun i v s hv hs => sec v s (h.last.2 i v s hv hs)⟩
  have hs4 := Secs.all_set ws' xs' hw4 hl4
  refine ⟨?_, fR⟩
  exact {
    blk := by
      show Blk w4 p 98 #[.slice (some ⟨nb, 0, none⟩) (setAll S.last xs').length nv'.length, .slice (some ⟨lb, 0, none⟩) (setAll S.last xs').length (setAll lv ws').length, .slice none 0 0, .int .i64 S.writes, .int .i64 (-1), .bool false]
      rw [hlen, hn1, setAll_length]; exact hp
    bnow := hn
    blast := hl
    ne := h.ne
    own := World.ownsRow_nil _ _ _ _
    rp := h.rp
    rn := h.rn
    rl := h.rl
    rw := by simp [Value.ownBlock]
    lt := fun b hb => Nat.lt_of_lt_of_le (h.lt b hb) fR.fr.size
    llen := rfl
    pos := by show 0 < (setAll S.last xs').length; rw [hlen]; exact h.pos
    small := by show (setAll S.last xs').length ≤ _; rw [hlen]; exact h.small
    now := ⟨by show (setAll S.last xs').length ≤ _; rw [hlen, hn1]; exact h.now.1, fun i v s hv hs => by
      have hi : i < (setAll S.last xs').length := (List.getElem?_eq_some_iff.1 hs).1
      exact hs4.2 i v s (by rw [← hn2 i (by rw [← hlen]; exact hi)]; exact hv) hs⟩
    last := hs4
    waits := ⟨rfl, fun i x y hx => by simp at hx⟩
    fuse0 := by simp
    fuse1 := by simp }

end Go.Proofs.YtccmmnacejdeoaaGreatDoor
