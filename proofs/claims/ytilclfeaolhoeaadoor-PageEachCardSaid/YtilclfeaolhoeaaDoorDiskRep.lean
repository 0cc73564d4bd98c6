/-
  How a disk lies in memory: what a *disk.Disk stands for (DS), and that this is kept where nothing of its blocks changes.
-/
import Derived.Test.YtilclfeaolhoeaaDoorBase
import Derived.Deep.AppendLies
namespace Go.Proofs.YtilclfeaolhoeaaDoor
set_option linter.unusedSimpArgs false
set_option linter.unusedVariables false
open Go.RowKit

def nought : List UInt8 := List.replicate 64 0

/-- A disk, as the document sees it: what is read, what is durable, what waits. -/
structure DS where
  now : List (List UInt8)
  last : List (List UInt8)
  waits : List (Nat × List UInt8)
  writes : Int
  fuse : Int
  dead : Bool

/-- A value that stands for a sector: nil for noughts, or a row of 64 bytes within R. -/
def Sec (R : Nat → Prop) (w : World) (v : Value) (s : List UInt8) : Prop :=
  s.length = 64 ∧ ((v = .slice none 0 0 ∧ s = nought) ∨ (w.ownsRow 0 5 1 v 64 (bts s) ∧ ∀ g, v.ownBlock = some g → R g))

theorem Sec.fr {R F : Nat → Prop} {w w' : World} {v : Value} {s : List UInt8} (h : Sec R w v s) (hf : Fr F w w') (hd : ∀ b, b < w.heap.size → R b → ¬ F b) : Sec R w' v s := by
  refine ⟨h.1, ?_⟩
  rcases h.2 with h2 | ⟨h2, h3⟩
  · exact .inl h2
  · exact .inr ⟨own_fr h2 hf (fun g hg => hd g (own_lt h2 hg) (h3 g hg)), h3⟩
theorem Sec.more {R R' : Nat → Prop} {w : World} {v : Value} {s : List UInt8} (h : Sec R w v s) (hd : ∀ b, b < w.heap.size → R b → R' b) : Sec R' w v s := by
  refine ⟨h.1, ?_⟩
  rcases h.2 with h2 | ⟨h2, h3⟩
  · exact .inl h2
  · exact .inr ⟨h2, fun g hg => hd g (own_lt h2 hg) (h3 g hg)⟩
/-- Kept where only rows of other kinds change. -/
theorem Sec.far {R F : Nat → Prop} {w w' : World} {v : Value} {s : List UInt8} (h : Sec R w v s) (hf : Fr F w w') (hd : ∀ b, F b → b < w.heap.size → ∃ t cs, Blk w b t cs ∧ t ≠ 5) : Sec R w' v s := by
  refine ⟨h.1, ?_⟩
  rcases h.2 with h2 | ⟨h2, h3⟩
  · exact .inl h2
  · refine .inr ⟨own_fr h2 hf (fun g hg hF => ?_), h3⟩
    obtain ⟨t, cs, hb, ht⟩ := hd g hF (own_lt h2 hg)
    exact Blk.own_ne hb h2 ht (by rw [hg])
theorem Sec.form {R : Nat → Prop} {w : World} {v : Value} {s : List UInt8} (h : Sec R w v s) : ∃ A n c, v = .slice A n c := by
  rcases h.2 with ⟨e, _⟩ | ⟨ho, _⟩
  · exact ⟨_, _, _, e⟩
  · obtain ⟨g, cap, e, _⟩ := ho.form (by omega)
    exact ⟨_, _, _, e⟩

/-- The first cells of a row stand for sectors. -/
def Secs (R : Nat → Prop) (w : World) (vs : List Value) (ss : List (List UInt8)) : Prop :=
  ss.length ≤ vs.length ∧ ∀ (i : Nat) v s, vs[i]? = some v → ss[i]? = some s → Sec R w v s

def waitCells (ws : List (Nat × Value)) : List Value := ws.flatMap fun x => [.int .i64 x.1, x.2]

def Waits (R : Nat → Prop) (w : World) (n : Nat) (ws : List (Nat × Value)) (ss : List (Nat × List UInt8)) : Prop :=
  ws.length = ss.length ∧ ∀ (i : Nat) x y, ws[i]? = some x → ss[i]? = some y → x.1 = y.1 ∧ x.1 < n ∧ Sec R w x.2 y.2

/-- The blocks of R that a disk may write: none that holds bytes. -/
def Mut (R : Nat → Prop) (w : World) : Nat → Prop := fun b => R b ∧ ¬ ∃ cs, Blk w b 5 cs
def FrD (R : Nat → Prop) (w w' : World) : Prop := Fr (Mut R w) w w'
theorem FrD.fr {R : Nat → Prop} {w w' : World} (h : FrD R w w') : Fr R w w' := Fr.mono h (fun _ _ h => h.1)
theorem not_u8 {w : World} {b : Nat} {t : TypeId} {cs : Array Value} (h : Blk w b t cs) (ht : t ≠ 5) : ¬ ∃ cs, Blk w b 5 cs := fun ⟨_, h2⟩ => Blk.ne_ h h2 ht rfl
theorem FrD.step {F R R' : Nat → Prop} {a b c : World} (h : Fr F a b) (hF : ∀ i, F i → Mut R a i) (k : FrD R' b c) (hR : ∀ i, i < a.heap.size → R' i → R i) : FrD R a c :=
  (h.mono (fun i _ hi => hF i hi)).step k (fun i hi ⟨h1, h2⟩ => ⟨hR i hi h1, fun ⟨cs, hcs⟩ => h2 ⟨cs, hcs.fr h (fun hf => (hF i hf).2 ⟨cs, hcs⟩)⟩⟩)
theorem FrD.step' {R F : Nat → Prop} {a b c : World} (h : FrD R a b) (k : Fr F b c) (hs : ∀ i, i < a.heap.size → F i → Mut R a i) : FrD R a c := Fr.step h k hs
theorem FrD.u8 {R : Nat → Prop} {w w' : World} {b : Nat} {cs : Array Value} (h : FrD R w w') (hb : Blk w b 5 cs) : Blk w' b 5 cs := hb.fr h (fun ⟨_, h2⟩ => h2 ⟨_, hb⟩)

/-- The cells of a disk, all of them within R. -/
structure DiskAt (R : Nat → Prop) (w : World) (p nb lb : Nat) (nv lv : List Value) (wv : Value) (ws : List (Nat × Value)) (S : DS) : Prop where
  blk : Blk w p 50 #[.slice (some ⟨nb, 0, none⟩) S.now.length nv.length, .slice (some ⟨lb, 0, none⟩) S.now.length lv.length, wv, .int .i64 S.writes, .int .i64 S.fuse, .bool S.dead]
  bnow : Blk w nb 35 nv.toArray
  blast : Blk w lb 35 lv.toArray
  ne : nb ≠ lb
  own : w.ownsRow 0 65 2 wv ws.length (waitCells ws)
  rp : R p
  rn : R nb
  rl : R lb
  rw : ∀ g, wv.ownBlock = some g → R g
  lt : ∀ b, R b → b < w.heap.size
  llen : S.last.length = S.now.length
  pos : 0 < S.now.length
  small : S.now.length ≤ 65536
  now : Secs R w nv S.now
  last : Secs R w lv S.last
  waits : Waits R w S.now.length ws S.waits
  fuse0 : -1 ≤ S.fuse
  fuse1 : S.fuse ≤ 9223372036854775807

def DiskOk (R : Nat → Prop) (w : World) (p : Nat) (S : DS) : Prop :=
  ∃ nb lb nv lv wv ws, DiskAt R w p nb lb nv lv wv ws S

theorem DiskAt.fr {R F : Nat → Prop} {w w' : World} {p nb lb : Nat} {nv lv : List Value} {wv : Value} {ws : List (Nat × Value)} {S : DS} (h : DiskAt R w p nb lb nv lv wv ws S) (hf : Fr F w w') (hd : ∀ b, R b → ¬ F b) :
    DiskAt R w' p nb lb nv lv wv ws S :=
  { h with
    blk := h.blk.fr hf (hd _ h.rp)
    bnow := h.bnow.fr hf (hd _ h.rn)
    blast := h.blast.fr hf (hd _ h.rl)
    own := own_fr h.own hf (fun g hg => hd g (h.rw g hg))
    lt := fun b hb => Nat.lt_of_lt_of_le (h.lt b hb) hf.size
    now := ⟨h.now.1, fun i v s hv hs => (h.now.2 i v s hv hs).fr hf (fun b _ hb => hd b hb)⟩
    last := ⟨h.last.1, fun i v s hv hs => (h.last.2 i v s hv hs).fr hf (fun b _ hb => hd b hb)⟩
    waits := ⟨h.waits.1, fun i x y hx hy => ⟨(h.waits.2 i x y hx hy).1, (h.waits.2 i x y hx hy).2.1, (h.waits.2 i x y hx hy).2.2.fr hf (fun b _ hb => hd b hb)⟩⟩ }

theorem DiskOk.fr {R F : Nat → Prop} {w w' : World} {p : Nat} {S : DS} (h : DiskOk R w p S) (hf : Fr F w w') (hd : ∀ b, R b → ¬ F b) : DiskOk R w' p S := by
  obtain ⟨nb, lb, nv, lv, wv, ws, h⟩ := h
  exact ⟨nb, lb, nv, lv, wv, ws, h.fr hf hd⟩
theorem DiskOk.lt {R : Nat → Prop} {w : World} {p : Nat} {S : DS} (h : DiskOk R w p S) {b : Nat} (hb : R b) : b < w.heap.size := by
  obtain ⟨nb, lb, nv, lv, wv, ws, h⟩ := h
  exact h.lt b hb
theorem DiskOk.lens {R : Nat → Prop} {w : World} {p : Nat} {S : DS} (h : DiskOk R w p S) : S.last.length = S.now.length := by
  obtain ⟨nb, lb, nv, lv, wv, ws, h⟩ := h
  exact h.llen
theorem DiskOk.pos {R : Nat → Prop} {w : World} {p : Nat} {S : DS} (h : DiskOk R w p S) : 0 < S.now.length := by
  obtain ⟨nb, lb, nv, lv, wv, ws, h⟩ := h
  exact h.pos
theorem DiskOk.new {R : Nat → Prop} {w w' : World} {p : Nat} {S : DS} (h : DiskOk R w p S) (hf : Fr Nob w w') : DiskOk R w' p S := h.fr hf (fun _ _ h => h)

theorem DiskAt.more {R R' : Nat → Prop} {w : World} {p nb lb : Nat} {nv lv : List Value} {wv : Value} {ws : List (Nat × Value)} {S : DS} (h : DiskAt R w p nb lb nv lv wv ws S) (hm : ∀ b, R b → R' b) (hl : ∀ b, R' b → b < w.heap.size) :
    DiskAt R' w p nb lb nv lv wv ws S :=
  { h with
    rp := hm _ h.rp
    rn := hm _ h.rn
    rl := hm _ h.rl
    rw := fun g hg => hm _ (h.rw g hg)
    lt := hl
    now := ⟨h.now.1, fun i v s hv hs => (h.now.2 i v s hv hs).more (fun b _ hb => hm b hb)⟩
    last := ⟨h.last.1, fun i v s hv hs => (h.last.2 i v s hv hs).more (fun b _ hb => hm b hb)⟩
    waits := ⟨h.waits.1, fun i x y hx hy => ⟨(h.waits.2 i x y hx hy).1, (h.waits.2 i x y hx hy).2.1, (h.waits.2 i x y hx hy).2.2.more (fun b _ hb => hm b hb)⟩⟩ }

/-- The blocks of a disk behind a call that made some. -/
def Ext (R : Nat → Prop) (w w' : World) : Nat → Prop := fun b => R b ∨ (w.heap.size ≤ b ∧ b < w'.heap.size)

/-- What a disk's one-cell changes come to: the number of writes, the fuse, whether it is dead. -/
theorem DiskAt.small_set {R : Nat → Prop} {w w' : World} {p nb lb : Nat} {nv lv : List Value} {wv : Value} {ws : List (Nat × Value)} {S : DS} (h : DiskAt R w p nb lb nv lv wv ws S) (hf : Fr (fun k => k = p) w w')
    (W F : Int) (D : Bool) (hF0 : -1 ≤ F) (hF1 : F ≤ 9223372036854775807)
    (hb : Blk w' p 50 #[.slice (some ⟨nb, 0, none⟩) S.now.length nv.length, .slice (some ⟨lb, 0, none⟩) S.now.length lv.length, wv, .int .i64 W, .int .i64 F, .bool D]) :
    DiskAt R w' p nb lb nv lv wv ws { S with writes := W, fuse := F, dead := D } := by
  have hne1 : ¬ nb = p := Blk.ne_ h.bnow h.blk (by decide)
  have hne2 : ¬ lb = p := Blk.ne_ h.blast h.blk (by decide)
  have hs : ∀ v s, Sec R w v s → Sec R w' v s := fun v s hv => hv.far hf (fun b hb _ => by subst hb; exact ⟨_, _, h.blk, by decide⟩)
  exact { h with
    blk := hb
    bnow := h.bnow.fr hf hne1
    blast := h.blast.fr hf hne2
    own := own_fr h.own hf (fun g hg he => by subst he; exact Blk.own_ne h.blk h.own (by decide) (by rw [hg]))
    lt := fun b hb => Nat.lt_of_lt_of_le (h.lt b hb) hf.size
    now := ⟨h.now.1, fun i v s hv hs' => hs v s (h.now.2 i v s hv hs')⟩
    last := ⟨h.last.1, fun i v s hv hs' => hs v s (h.last.2 i v s hv hs')⟩
    waits := ⟨h.waits.1, fun i x y hx hy => ⟨(h.waits.2 i x y hx hy).1, (h.waits.2 i x y hx hy).2.1, hs _ _ (h.waits.2 i x y hx hy).2.2⟩⟩
    fuse0 := hF0
    fuse1 := hF1 }

theorem own_blk {w : World} {base : Nat} {e : TypeId} {size n : Nat} {v : Value} {xs : List Value} {g : Nat} (h : w.ownsRow base e size v n xs) (hv : v.ownBlock = some g) : ∃ cs, Blk w g e cs := by
  rcases h.2 with ⟨rfl, _⟩ | ⟨g', cap, cur, rfl, _, hh, _⟩
  · simp [Value.ownBlock] at hv
  · have : g' = g := by simpa [Value.ownBlock] using hv
    subst this
    exact ⟨cur, hh⟩

def DS.wr0 (S : DS) (i : Nat) (s : List UInt8) : DS := { S with now := S.now.set i s, waits := S.waits ++ [(i, s)], writes := wrap64 (S.writes + 1) }

theorem waitCells_snoc (ws : List (Nat × Value)) (x : Nat × Value) : waitCells (ws ++ [x]) = waitCells ws ++ [.int .i64 x.1, x.2] := by simp [waitCells]

/-- What Write leaves ahead of the fuse. -/
theorem write_shape {R : Nat → Prop} {w1 w2 : World} {p nb lb : Nat} {nv lv : List Value} {wv : Value} {ws : List (Nat × Value)} {S : DS} (h : DiskAt R w1 p nb lb nv lv wv ws S)
    (B g cap : Nat) (i : Nat) (s : List UInt8) (hi : i < S.now.length) (hs : s.length = 64) (hR : ∀ b, R b → b < B)
    (hown : w1.ownsRow B 5 1 (.slice (some ⟨g, 0, none⟩) 64 cap) 64 (bts s)) (v' : Value)
    (hg : ((w1.setCell ⟨nb, i, none⟩ (.slice (some ⟨g, 0, none⟩) 64 cap)).alloc (.cells #[.int .i64 i, .slice (some ⟨g, 0, none⟩) 64 cap] 65)).grownBy w2 wv.ownBlock)
    (hown' : w2.ownsRow 0 65 2 v' (ws.length + 1) (waitCells ws ++ [.int .i64 i, .slice (some ⟨g, 0, none⟩) 64 cap]))
    (hat : v'.ownBlock = wv.ownBlock ∨ v'.ownBlock = some (w1.heap.size + 1)) (hB : B ≤ w1.heap.size)
    (w4 : World) (hw : w4 = (w2.setCell ⟨p, 2, none⟩ v').setCell ⟨p, 3, none⟩ (.int .i64 (wrap64 (S.writes + 1)))) :
    DiskAt (fun b => R b ∨ (B ≤ b ∧ b < w4.heap.size)) w4 p nb lb (nv.set i (.slice (some ⟨g, 0, none⟩) 64 cap)) lv v' (ws ++ [(i, .slice (some ⟨g, 0, none⟩) 64 cap)]) (S.wr0 i s) ∧
      FrD R w1 w4 := by
  have hpn : ¬ p = nb := Blk.ne_ h.blk h.bnow (by decide)
  have hln : ¬ lb = nb := fun e => h.ne e.symm
  have hpl : ¬ lb = p := Blk.ne_ h.blast h.blk (by decide)
  have f2 : Fr (fun k => k = nb ∨ some k = wv.ownBlock) w1 w2 :=
    ((((Fr.refl _ w1).setCell (p := ⟨nb, i, none⟩) (.inr (.inl rfl)) _).alloc _).grown hg (fun k hk => .inr (.inr hk.symm)))
  have f4 : Fr (fun k => k = p ∨ k = nb ∨ some k = wv.ownBlock) w1 w4 := by
    subst hw
    exact ((f2.mono (fun k _ hk => .inr hk)).setCell (p := ⟨p, 2, none⟩) (.inr (.inl rfl)) _).setCell (p := ⟨p, 3, none⟩) (.inr (.inl rfl)) _
  have fR : FrD R w1 w4 := f4.mono (fun k _ hk => by
    rcases hk with rfl | rfl | hk
    · exact ⟨h.rp, not_u8 h.blk (by decide)⟩
    · exact ⟨h.rn, not_u8 h.bnow (by decide)⟩
    · obtain ⟨cs, hcs⟩ := own_blk h.own hk.symm
      exact ⟨h.rw k hk.symm, not_u8 hcs (by decide)⟩)
  have hsz : w2.heap.size = w4.heap.size := by subst hw; simp [World.setCell]
  have hz1 : w1.heap.size + 1 ≤ w2.heap.size := by have := hg.size; simp at this; simpa [World.setCell] using this
  have far : ∀ b, (b = p ∨ b = nb ∨ some b = wv.ownBlock) → b < w1.heap.size → ∃ t cs, Blk w1 b t cs ∧ t ≠ 5 := by
    rintro b (rfl | rfl | hb) _
    · exact ⟨_, _, h.blk, by decide⟩
    · exact ⟨_, _, h.bnow, by decide⟩
    · obtain ⟨cs, hcs⟩ := own_blk h.own hb.symm
      exact ⟨_, _, hcs, by decide⟩
  have sec : ∀ v s', Sec R w1 v s' → Sec (fun b => R b ∨ (B ≤ b ∧ b < w4.heap.size)) w4 v s' := fun v s' hv =>
    (hv.far f4 far).more (fun b _ hb => .inl hb)
  have gB : B ≤ g ∧ g < w1.heap.size := hown.lt g rfl
  have sec1 : Sec (fun b => R b ∨ (B ≤ b ∧ b < w4.heap.size)) w4 (.slice (some ⟨g, 0, none⟩) 64 cap) s := by
    have h0 : Sec (fun b => b = g) w1 (.slice (some ⟨g, 0, none⟩) 64 cap) s := ⟨hs, .inr ⟨own_base hown (fun _ _ => Nat.zero_le _), fun k hk => by simpa [Value.ownBlock] using hk.symm⟩⟩
    refine (h0.far f4 far).more (fun b hb e => ?_)
    subst e
    exact .inr ⟨gB.1, by omega⟩
  refine ⟨?_, fR⟩
  exact {
    blk := by
      subst hw
      have b2 := ((h.blk.far (p := ⟨nb, i, none⟩) hpn (.slice (some ⟨g, 0, none⟩) 64 cap)).alloc (.cells #[.int .i64 i, .slice (some ⟨g, 0, none⟩) 64 cap] 65)).grown hg (Blk.own_ne h.blk h.own (by decide))
      rw [List.length_set, show (S.wr0 i s).now.length = S.now.length from by simp [DS.wr0]]
      exact (b2.set_ 2 v').set_ 3 _
    bnow := by
      subst hw
      have b1 := h.bnow.set_ i (.slice (some ⟨g, 0, none⟩) 64 cap)
      rw [List.setIfInBounds_toArray] at b1
      have b2 := (b1.alloc (.cells #[.int .i64 i, .slice (some ⟨g, 0, none⟩) 64 cap] 65)).grown hg (Blk.own_ne h.bnow h.own (by decide))
      exact (b2.far (p := ⟨p, 2, none⟩) (fun e => hpn e.symm) _).far (p := ⟨p, 3, none⟩) (fun e => hpn e.symm) _
    blast := h.blast.fr f4 (by
      rintro (e | e | e)
      · exact hpl e
      · exact hln e
      · exact Blk.own_ne h.blast h.own (by decide) e)
    ne := h.ne
    own := by
      rw [waitCells_snoc, List.length_append]
      have b2 := ((h.blk.far (p := ⟨nb, i, none⟩) hpn (.slice (some ⟨g, 0, none⟩) 64 cap)).alloc (.cells #[.int .i64 i, .slice (some ⟨g, 0, none⟩) 64 cap] 65)).grown hg (Blk.own_ne h.blk h.own (by decide))
      subst hw
      exact own_set (own_set hown' b2 (by decide)) (b2.set_ 2 v') (by decide)
    rp := .inl h.rp
    rn := .inl h.rn
    rl := .inl h.rl
    rw := fun k hk => by
      rcases hat with e | e
      · exact .inl (h.rw k (by rw [← e]; exact hk))
      · have hk' := own_lt hown' hk
        rw [e] at hk
        injection hk with hk
        exact .inr ⟨by omega, by omega⟩
    lt := fun b hb => by
      rcases hb with hb | hb
      · have := h.lt b hb; have := f4.size; omega
      · exact hb.2
    llen := by simp only [DS.wr0, List.length_set]; exact h.llen
    pos := by simp only [DS.wr0, List.length_set]; exact h.pos
    small := by simp only [DS.wr0, List.length_set]; exact h.small
    now := by
      refine ⟨by simp [DS.wr0, h.now.1], fun j v s' hv hs' => ?_⟩
      simp only [DS.wr0] at hs'
      rw [List.getElem?_set] at hv hs'
      by_cases hj : i = j
      · subst hj
        rw [if_pos rfl, if_pos (Nat.lt_of_lt_of_le hi h.now.1)] at hv
        rw [if_pos rfl, if_pos hi] at hs'
        injection hv with hv
        injection hs' with hs'
        subst hv hs'
        exact sec1
      · rw [if_neg hj] at hv hs'
        exact sec v s' (h.now.2 j v s' hv hs')
    last := ⟨h.last.1, fun j v s' hv hs' => sec v s' (h.last.2 j v s' hv hs')⟩
    waits := by
      refine ⟨by simp [DS.wr0, h.waits.1], fun j x y hx hy => ?_⟩
      simp only [DS.wr0] at hy
      rw [show (S.wr0 i s).now.length = S.now.length from by simp [DS.wr0]]
      rw [List.getElem?_append] at hx hy
      rw [h.waits.1] at hx
      by_cases hj : j < S.waits.length
      · rw [if_pos hj] at hx hy
        obtain ⟨e1, e2, e3⟩ := h.waits.2 j x y hx hy
        exact ⟨e1, e2, sec _ _ e3⟩
      · rw [if_neg hj] at hx hy
        have : j - S.waits.length = 0 := by
          have := (List.getElem?_eq_some_iff.1 hx).1
          simp at this
          omega
        rw [this] at hx hy
        simp at hx hy
        subst hx hy
        exact ⟨rfl, hi, sec1⟩
    fuse0 := h.fuse0
    fuse1 := h.fuse1 }

def setAll {α : Type} (l : List α) (ws : List (Nat × α)) : List α := ws.foldl (fun l x => l.set x.1 x.2) l
theorem setAll_length {α : Type} (l : List α) (ws : List (Nat × α)) : (setAll l ws).length = l.length := by
  unfold setAll
  induction ws generalizing l with
  | nil => rfl
  | cons x ws ih => rw [List.foldl_cons, ih, List.length_set]
theorem setAll_snoc {α : Type} (l : List α) (ws : List (Nat × α)) (x : Nat × α) : setAll l (ws ++ [x]) = (setAll l ws).set x.1 x.2 := by simp [setAll]
theorem setAll_take {α : Type} (l : List α) (ws : List (Nat × α)) (k : Nat) (h : k < ws.length) : setAll l (ws.take (k + 1)) = (setAll l (ws.take k)).set ws[k].1 ws[k].2 := by
  rw [← setAll_snoc, List.take_add_one, List.getElem?_eq_getElem h]; rfl

theorem all_setAll {α : Type} {P : α → Prop} (ws : List (Nat × α)) (hw : ∀ x ∈ ws, P x.2) : ∀ l : List α, (∀ v ∈ l, P v) → ∀ v ∈ setAll l ws, P v := by
  induction ws with
  | nil => exact fun l hl => hl
  | cons x ws ih =>
    intro l hl v hv
    simp only [setAll, List.foldl_cons] at hv
    refine ih (fun y hy => hw y (List.mem_cons_of_mem _ hy)) _ (fun u hu => ?_) v hv
    rcases List.mem_or_eq_of_mem_set hu with h | h
    · exact hl u h
    · rw [h]; exact hw x (List.mem_cons_self ..)

theorem Secs.set {R : Nat → Prop} {w : World} {vs : List Value} {ss : List (List UInt8)} (h : Secs R w vs ss) (i : Nat) (v : Value) (s : List UInt8) (hv : Sec R w v s) : Secs R w (vs.set i v) (ss.set i s) := by
  refine ⟨by simpa using h.1, fun j v' s' h1 h2 => ?_⟩
  rw [List.getElem?_set] at h1 h2
  by_cases hj : i = j
  · subst hj
    by_cases hl : i < ss.length
    · rw [if_pos rfl, if_pos (Nat.lt_of_lt_of_le hl h.1)] at h1
      rw [if_pos rfl, if_pos hl] at h2
      injection h1 with h1
      injection h2 with h2
      subst h1 h2
      exact hv
    · rw [if_pos rfl, if_neg hl] at h2
      cases h2
  · rw [if_neg hj] at h1 h2
    exact h.2 j v' s' h1 h2
theorem Secs.all_set {R : Nat → Prop} {w : World} {n : Nat} (ws : List (Nat × Value)) (xs : List (Nat × List UInt8)) (hw : Waits R w n ws xs) :
    ∀ {vs : List Value} {ss : List (List UInt8)}, Secs R w vs ss → Secs R w (setAll vs ws) (setAll ss xs) := by
  induction ws generalizing xs with
  | nil =>
    intro vs ss h
    have : xs = [] := List.eq_nil_of_length_eq_zero (by rw [← hw.1]; rfl)
    subst this
    exact h
  | cons x ws ih =>
    intro vs ss h
    cases xs with
    | nil => have := hw.1; simp at this
    | cons y xs =>
      obtain ⟨e1, e2, e3⟩ := hw.2 0 x y rfl rfl
      have hw' : Waits R w n ws xs := ⟨by have := hw.1; simpa using this, fun i a b ha hb => hw.2 (i + 1) a b ha hb⟩
      have h' := h.set x.1 x.2 y.2 e3
      have := ih xs hw' h'
      simp only [setAll, List.foldl_cons] at this ⊢
      rw [← e1]
      exact this

def DS.flush0 (S : DS) : DS := { S with last := setAll S.last S.waits, waits := [] }

/-- What Flush leaves ahead of the fuse. -/
theorem flush_shape {R : Nat → Prop} {w wr : World} {p nb lb : Nat} {nv lv : List Value} {wv : Value} {ws : List (Nat × Value)} {S : DS} (h : DiskAt R w p nb lb nv lv wv ws S)
    (hf : Fr (fun b => b = lb) w wr) (hb : Blk wr lb 35 (setAll lv ws).toArray) (w4 : World) (hw : w4 = wr.setCell ⟨p, 2, none⟩ (.slice none 0 0)) :
    DiskAt R w4 p nb lb nv (setAll lv ws) (.slice none 0 0) [] S.flush0 ∧ FrD R w w4 := by
  have hpl : ¬ p = lb := Blk.ne_ h.blk h.blast (by decide)
  have hpn : ¬ nb = p := Blk.ne_ h.bnow h.blk (by decide)
  have f4 : Fr (fun k => k = p ∨ k = lb) w w4 := by
    subst hw
    exact (hf.mono (fun k _ hk => .inr hk)).setCell (p := ⟨p, 2, none⟩) (.inr (.inl rfl)) _
  have fR : FrD R w w4 := f4.mono (fun k _ hk => by
    rcases hk with rfl | rfl
    · exact ⟨h.rp, not_u8 h.blk (by decide)⟩
    · exact ⟨h.rl, not_u8 h.blast (by decide)⟩)
  have sec : ∀ v s', Sec R w v s' → Sec R w4 v s' := fun v s' hv => hv.far f4 (by
    rintro b (rfl | rfl) _
    · exact ⟨_, _, h.blk, by decide⟩
    · exact ⟨_, _, h.blast, by decide⟩)
  have hw4 : Waits R w4 S.now.length ws S.waits := ⟨h.waits.1, fun i x y hx hy => ⟨(h.waits.2 i x y hx hy).1, (h.waits.2 i x y hx hy).2.1, sec _ _ (h.waits.2 i x y hx hy).2.2⟩⟩
  have hl4 : Secs R w4 lv S.last := ⟨h.last.1, fun i v s hv hs => sec v s (h.last.2 i v s hv hs)⟩
  refine ⟨?_, fR⟩
  exact {
    blk := by
      subst hw
      rw [setAll_length]
      exact (h.blk.fr hf hpl).set_ 2 _
    bnow := h.bnow.fr f4 (by
      rintro (e | e)
      · exact hpn e
      · exact h.ne e)
    blast := by
      subst hw
      exact hb.far (p := ⟨p, 2, none⟩) (fun e => hpl e.symm) _
    ne := h.ne
    own := World.ownsRow_nil _ _ _ _
    rp := h.rp
    rn := h.rn
    rl := h.rl
    rw := by simp [Value.ownBlock]
    lt := fun b hb => Nat.lt_of_lt_of_le (h.lt b hb) f4.size
    llen := by simp only [DS.flush0]; rw [setAll_length]; exact h.llen
    pos := h.pos
    small := h.small
    now := ⟨h.now.1, fun i v s hv hs => sec v s (h.now.2 i v s hv hs)⟩
    last := Secs.all_set ws S.waits hw4 hl4
    waits := ⟨rfl, fun i x y hx => by simp at hx⟩
    fuse0 := h.fuse0
    fuse1 := h.fuse1 }

theorem waitCells_get (ws : List (Nat × Value)) (k : Nat) (h : k < ws.length) : (waitCells ws)[k * 2]? = some (.int .i64 ws[k].1) ∧ (waitCells ws)[k * 2 + 1]? = some ws[k].2 := by
  induction ws generalizing k with
  | nil => simp at h
  | cons x ws ih =>
    cases k with
    | zero => simp [waitCells]
    | succ k =>
      have hk : k < ws.length := by simpa using h
      have := ih k hk
      simp only [waitCells, List.flatMap_cons, List.cons_append, List.nil_append] at this ⊢
      rw [show (k + 1) * 2 = k * 2 + 1 + 1 from by omega]
      simpa using this

/-- What Crash leaves. -/
theorem crash_shape {R : Nat → Prop} {w w4 : World} {p nb lb : Nat} {nv lv nv' : List Value} {wv : Value} {ws ws' : List (Nat × Value)} {xs' : List (Nat × List UInt8)} {S : DS} (h : DiskAt R w p nb lb nv lv wv ws S)
    (hw' : Waits R w S.now.length ws' xs') (hf : Fr (fun b => b = p ∨ b = nb ∨ b = lb) w w4)
    (hp : Blk w4 p 50 #[.slice (some ⟨nb, 0, none⟩) S.now.length nv.length, .slice (some ⟨lb, 0, none⟩) S.now.length lv.length, .slice none 0 0, .int .i64 S.writes, .int .i64 (-1), .bool false])
    (hn : Blk w4 nb 35 nv'.toArray) (hn1 : nv'.length = nv.length) (hn2 : ∀ i, i < S.now.length → nv'[i]? = (setAll lv ws')[i]?) (hl : Blk w4 lb 35 (setAll lv ws').toArray) :
    DiskAt R w4 p nb lb nv' (setAll lv ws') (.slice none 0 0) [] { S with now := setAll S.last xs', last := setAll S.last xs', waits := [], fuse := -1, dead := false } ∧ FrD R w w4 := by
  have hlen : (setAll S.last xs').length = S.now.length := by rw [setAll_length]; exact h.llen
  have fR : FrD R w w4 := hf.mono (fun k _ hk => by
    rcases hk with rfl | rfl | rfl
    · exact ⟨h.rp, not_u8 h.blk (by decide)⟩
    · exact ⟨h.rn, not_u8 h.bnow (by decide)⟩
    · exact ⟨h.rl, not_u8 h.blast (by decide)⟩)
  have sec : ∀ v s', Sec R w v s' → Sec R w4 v s' := fun v s' hv => hv.far hf (by
    rintro b (rfl | rfl | rfl) _
    · exact ⟨_, _, h.blk, by decide⟩
    · exact ⟨_, _, h.bnow, by decide⟩
    · exact ⟨_, _, h.blast, by decide⟩)
  have hw4 : Waits R w4 S.now.length ws' xs' := ⟨hw'.1, fun i x y hx hy => ⟨(hw'.2 i x y hx hy).1, (hw'.2 i x y hx hy).2.1, sec _ _ (hw'.2 i x y hx hy).2.2⟩⟩
  have hl4 : Secs R w4 lv S.last := ⟨h.last.1, fun i v s hv hs => sec v s (h.last.2 i v s hv hs)⟩
  have hs4 := Secs.all_set ws' xs' hw4 hl4
  refine ⟨?_, fR⟩
  exact {
    blk := by
      show Blk w4 p 50 #[.slice (some ⟨nb, 0, none⟩) (setAll S.last xs').length nv'.length, .slice (some ⟨lb, 0, none⟩) (setAll S.last xs').length (setAll lv ws').length, .slice none 0 0, .int .i64 S.writes, .int .i64 (-1), .bool false]
      rw [hlen, hn1, setAll_length]; exact hp
    bnow := hn
    blast := hl
    ne := h.ne
    own := World.ownsRow_nil _ _ _ _
    rp := h.rp
    rn := h.rn
    rl := h.rl
    rw := by simp [Value.ownBlock]
    lt := fun b hb => Nat.lt_of_lt_of_le (h.lt b hb) fR.fr.size
    llen := rfl
    pos := by show 0 < (setAll S.last xs').length; rw [hlen]; exact h.pos
    small := by show (setAll S.last xs').length ≤ _; rw [hlen]; exact h.small
    now := ⟨by show (setAll S.last xs').length ≤ _; rw [hlen, hn1]; exact h.now.1, fun i v s hv hs => by
      have hi : i < (setAll S.last xs').length := (List.getElem?_eq_some_iff.1 hs).1
      exact hs4.2 i v s (by rw [← hn2 i (by rw [← hlen]; exact hi)]; exact hv) hs⟩
    last := hs4
    waits := ⟨rfl, fun i x y hx => by simp at hx⟩
    fuse0 := by simp
    fuse1 := by simp }

end Go.Proofs.YtilclfeaolhoeaaDoor
