/-
  The loop of EdgeOf, as states; what the walk keeps in memory.
-/
import Derived.Test.YtofabaeadnljbaaDoorPkEdgeW
namespace Go.Proofs.YtofabaeadnljbaaDoor
set_option linter.unusedSimpArgs false
set_option linter.unusedVariables false
open Go.RowKit

/-- Where the loop over the points stands: ok, how many points, the reader, the last point. -/
structure Est (b : List UInt8) (r6 : Rd) (N : Int) (ok : Bool) (i : Nat) (r : Rd) (p q : Int) : Prop where
  go : ok = true → 0 ≤ N ∧ N ≤ 64 ∧ i ≤ N.toNat ∧ eLoop N.toNat r6 0 0 = eLoop (N.toNat - i) r p q
  bad : ok = false → edgeErr b = 3
  len : r.b.length ≤ 140737488351232
  e : r.e ≤ 5
def EdD (b : List UInt8) (r6 : Rd) (N : Int) : Prop := edgeErr b = if N < 0 ∨ 64 < N then 3 else if (eLoop N.toNat r6 0 0).1 = false then 3 else (eLoop N.toNat r6 0 0).2.stop
theorem Est.start {b : List UInt8} {r6 : Rd} {N : Int} (hd : EdD b r6 N) (ok : Bool) (ho : ok = (decide (0 ≤ N) && decide (N ≤ 64))) (hl : r6.b.length ≤ 140737488351232) (he : r6.e ≤ 5) : Est b r6 N ok 0 r6 0 0 := by
  refine ⟨fun h => ?_, fun h => ?_, hl, he⟩
  · rw [ho, Bool.and_eq_true, decide_eq_true_eq, decide_eq_true_eq] at h
    exact ⟨h.1, h.2, Nat.zero_le _, by rw [Nat.sub_zero]⟩
  · rw [hd, if_pos]
    rw [ho, Bool.and_eq_false_iff, decide_eq_false_iff_not, decide_eq_false_iff_not] at h
    omega
theorem Est.step {b : List UInt8} {r6 : Rd} {N : Int} {i : Nat} {r : Rd} {p q : Int} (hd : EdD b r6 N) (h : Est b r6 N true i r p q) (hi : (i : Int) < N) :
    Est b r6 N (sumOk p r.x && sumOk q r.nx.x) (i + 1) r.nx.nx (w64 (p + r.x)) (w64 (q + r.nx.x)) := by
  obtain ⟨h0, h1, h2, h3⟩ := h.go rfl
  have l1 := r.nx_len
  have l2 := r.nx.nx_len
  have hl := h.len
  have hk : N.toNat - i = (N.toNat - (i + 1)) + 1 := by omega
  rw [hk, eLoop] at h3
  refine ⟨fun hok => ?_, fun hok => ?_, by omega, r.nx.nx_e (r.nx_e h.e)⟩
  · rw [Bool.and_eq_true] at hok
    rw [if_pos hok] at h3
    exact ⟨h0, h1, by omega, h3⟩
  · rw [if_neg (by rw [← Bool.and_eq_true, hok]; decide)] at h3
    rw [hd, if_neg (by omega), h3, if_pos rfl]
theorem Est.done {b : List UInt8} {r6 : Rd} {N : Int} {i : Nat} {r : Rd} {p q : Int} (hd : EdD b r6 N) (h : Est b r6 N true i r p q) (hi : ¬ (i : Int) < N) : edgeErr b = r.stop := by
  obtain ⟨h0, h1, h2, h3⟩ := h.go rfl
  have : N.toNat - i = 0 := by omega
  rw [this, eLoop] at h3
  rw [hd, if_neg (by omega), h3, if_neg (by simp)]

def z6 : Array Value := #[.int .i64 0, .int .i64 0, .int .i64 0, .slice none 0 0, .int .i64 0, .int .i64 0]
/-- What lies in memory while the points are read: the reader's boxes at B and B + 1, the last point's at g9, the edge's at g6, the result's at s. -/
structure EL (w W : World) (s B g6 g9 base : Nat) (r : Rd) (p q x0 x1 x2 x3 x4 : Int) (i : Nat) : Prop where
  rd : RdAt W B r
  last : Blk W g9 23 #[.int .i64 p, .int .i64 q]
  ed : ∃ v xs, Blk W g6 38 #[.int .i64 x0, .int .i64 x1, .int .i64 x2, v, .int .i64 x3, .int .i64 x4] ∧ W.ownsRow base 23 2 v i xs
  res : Blk W s 38 z6
  fr : Fr (fun x => s ≤ x) w W
  bs : base ≤ W.heap.size
structure ElO (w : World) (s B g6 g9 base : Nat) : Prop where
  os : w.heap.size ≤ s
  ob : s < B
  o6 : B + 1 < g6
  o9 : g6 < g9
  oz : g9 < base
section
variable {w W W' : World} {s B g6 g9 base : Nat} {r r' : Rd} {p q x0 x1 x2 x3 x4 : Int} {i : Nat}
/-- The reader went on. -/
theorem EL.next (o : ElO w s B g6 g9 base) (h : EL w W s B g6 g9 base r p q x0 x1 x2 x3 x4 i) (hf : Fr (fun b => b = B ∨ b = B + 1) W W') (hr : RdAt W' B r') : EL w W' s B g6 g9 base r' p q x0 x1 x2 x3 x4 i := by
  obtain ⟨v, xs, k1, k2⟩ := h.ed
  have o1 := o.ob
  have o2 := o.o6
  have o3 := o.o9
  have o4 := o.oz
  exact ⟨hr, h.last.fr hf (fun h => by omega), ⟨v, xs, k1.fr hf (fun h => by omega), own_fr k2 hf (fun g hg h => by have := (k2.lt g hg).1; omega)⟩, h.res.fr hf (fun h => by omega), h.fr.trans (hf.mono (fun i _ h => by omega)), Nat.le_trans h.bs hf.size⟩
theorem EL.drew (h : EL w W s B g6 g9 base r p q x0 x1 x2 x3 x4 i) : EL w W.drew s B g6 g9 base r p q x0 x1 x2 x3 x4 i := by
  obtain ⟨v, xs, k1, k2⟩ := h.ed
  exact ⟨h.rd.new (Fr.refl Nob W).drew, h.last, ⟨v, xs, k1, k2⟩, h.res, h.fr.drew, h.bs⟩
/-- The last point is set. -/
theorem EL.set (o : ElO w s B g6 g9 base) (h : EL w W s B g6 g9 base r p q x0 x1 x2 x3 x4 i) (p' q' : Int) : EL w ((W.setCell ⟨g9, 0, none⟩ (.int .i64 p')).setCell ⟨g9, 1, none⟩ (.int .i64 q')) s B g6 g9 base r p' q' x0 x1 x2 x3 x4 i := by
  obtain ⟨v, xs, k1, k2⟩ := h.ed
  have o0 := o.os
  have o1 := o.ob
  have o2 := o.o6
  have o3 := o.o9
  have o4 := o.oz
  have hf : Fr (fun b => b = g9) W ((W.setCell ⟨g9, 0, none⟩ (.int .i64 p')).setCell ⟨g9, 1, none⟩ (.int .i64 q')) := ((Fr.refl (fun b => b = g9) W).setCell (p := ⟨g9, 0, none⟩) (.inr rfl) _).setCell (p := ⟨g9, 1, none⟩) (.inr rfl) _
  exact ⟨h.rd.fr hf (by omega) (by omega) (fun b hb h => by omega), (h.last.set_ 0 _).set_ 1 _, ⟨v, xs, k1.fr hf (fun h => by omega), own_fr k2 hf (fun g hg h => by have := (k2.lt g hg).1; omega)⟩, h.res.fr hf (fun h => by omega), h.fr.trans (hf.mono (fun i _ h => by omega)), Nat.le_trans h.bs hf.size⟩
theorem EL.alloc (o : ElO w s B g6 g9 base) (h : EL w W s B g6 g9 base r p q x0 x1 x2 x3 x4 i) (ob : Obj) : EL w (W.alloc ob) s B g6 g9 base r p q x0 x1 x2 x3 x4 i := by
  obtain ⟨v, xs, k1, k2⟩ := h.ed
  exact ⟨h.rd.new ((Fr.refl Nob W).alloc _), h.last.alloc _, ⟨v, xs, k1.alloc _, k2.alloc _⟩, h.res.alloc _, h.fr.alloc _, by rw [World.size_alloc]; exact Nat.le_succ_of_le h.bs⟩
/-- The row of points grew. -/
theorem EL.grown (o : ElO w s B g6 g9 base) (h : EL w W s B g6 g9 base r p q x0 x1 x2 x3 x4 i) {v v' : Value} {xs xs' : List Value} (k1 : Blk W g6 38 #[.int .i64 x0, .int .i64 x1, .int .i64 x2, v, .int .i64 x3, .int .i64 x4]) (k2 : W.ownsRow base 23 2 v i xs) (hg : W.grownBy W' v.ownBlock) (k3 : W'.ownsRow base 23 2 v' (i + 1) xs') :
    Blk W' g6 38 #[.int .i64 x0, .int .i64 x1, .int .i64 x2, v, .int .i64 x3, .int .i64 x4] ∧ EL w (W'.setCell ⟨g6, 3, none⟩ v') s B g6 g9 base r p q x0 x1 x2 x3 x4 (i + 1) := by
  have o0 := o.os
  have o1 := o.ob
  have o2 := o.o6
  have o3 := o.o9
  have o4 := o.oz
  have hf : Fr (fun b => base ≤ b) W W' := (Fr.refl _ W).grown hg (fun k hk => .inr (k2.lt k hk).1)
  have hb6 := k1.fr hf (by omega)
  have hf2 : Fr (fun b => base ≤ b ∨ b = g6) W (W'.setCell ⟨g6, 3, none⟩ v') := (hf.mono (fun _ _ h => .inl h)).setCell (p := ⟨g6, 3, none⟩) (.inr (.inr rfl)) _
  exact ⟨hb6, h.rd.fr hf2 (by omega) (by omega) (fun b hb h => by omega), h.last.fr hf2 (by omega), ⟨v', xs', hb6.set_ 3 v', own_set k3 hb6 (by decide)⟩, h.res.fr hf2 (by omega), h.fr.trans (hf2.mono (fun i _ h => by omega)), Nat.le_trans h.bs hf2.size⟩
/-- The reader's end was told. -/
theorem EL.after (o : ElO w s B g6 g9 base) (h : EL w W s B g6 g9 base r p q x0 x1 x2 x3 x4 i) (hf : Fr (fun b => b = B ∨ b = B + 1) W W') : ∃ v xs, Blk W' g6 38 #[.int .i64 x0, .int .i64 x1, .int .i64 x2, v, .int .i64 x3, .int .i64 x4] ∧ W'.ownsRow base 23 2 v i xs ∧ Blk W' s 38 z6 ∧ Fr (fun x => s ≤ x) w W' := by
  obtain ⟨v, xs, k1, k2⟩ := h.ed
  have o1 := o.ob
  have o2 := o.o6
  have o3 := o.o9
  have o4 := o.oz
  exact ⟨v, xs, k1.fr hf (fun h => by omega), own_fr k2 hf (fun g hg h => by have := (k2.lt g hg).1; omega), h.res.fr hf (fun h => by omega), h.fr.trans (hf.mono (fun i _ h => by omega))⟩
/-- The last point is set, and laid down to be appended. -/
theorem EL.put (o : ElO w s B g6 g9 base) (h : EL w W s B g6 g9 base r p q x0 x1 x2 x3 x4 i) (p' q' : Int) {v : Value} {xs : List Value} (k1 : Blk W g6 38 #[.int .i64 x0, .int .i64 x1, .int .i64 x2, v, .int .i64 x3, .int .i64 x4]) (k2 : W.ownsRow base 23 2 v i xs) :
    EL w (((W.setCell ⟨g9, 0, none⟩ (.int .i64 p')).setCell ⟨g9, 1, none⟩ (.int .i64 q')).alloc (.cells #[.int .i64 p', .int .i64 q'] 23)) s B g6 g9 base r p' q' x0 x1 x2 x3 x4 i ∧
    Blk (((W.setCell ⟨g9, 0, none⟩ (.int .i64 p')).setCell ⟨g9, 1, none⟩ (.int .i64 q')).alloc (.cells #[.int .i64 p', .int .i64 q'] 23)) g6 38 #[.int .i64 x0, .int .i64 x1, .int .i64 x2, v, .int .i64 x3, .int .i64 x4] ∧
    (((W.setCell ⟨g9, 0, none⟩ (.int .i64 p')).setCell ⟨g9, 1, none⟩ (.int .i64 q')).alloc (.cells #[.int .i64 p', .int .i64 q'] 23)).ownsRow base 23 2 v i xs ∧
    (∀ j u, [Value.int .i64 p', .int .i64 q'][j]? = some u → (((W.setCell ⟨g9, 0, none⟩ (.int .i64 p')).setCell ⟨g9, 1, none⟩ (.int .i64 q')).alloc (.cells #[.int .i64 p', .int .i64 q'] 23)).cell? ((⟨W.heap.size, 0, none⟩ : Addr).add j) = some u) ∧
    base ≤ (((W.setCell ⟨g9, 0, none⟩ (.int .i64 p')).setCell ⟨g9, 1, none⟩ (.int .i64 q')).alloc (.cells #[.int .i64 p', .int .i64 q'] 23)).heap.size := by
  have hbz := h.bs
  have hf : Fr (fun b => b = g9) W ((W.setCell ⟨g9, 0, none⟩ (.int .i64 p')).setCell ⟨g9, 1, none⟩ (.int .i64 q')) := ((Fr.refl (fun b => b = g9) W).setCell (p := ⟨g9, 0, none⟩) (.inr rfl) _).setCell (p := ⟨g9, 1, none⟩) (.inr rfl) _
  have o4 := o.oz
  have o3 := o.o9
  have hsz : ((W.setCell ⟨g9, 0, none⟩ (.int .i64 p')).setCell ⟨g9, 1, none⟩ (.int .i64 q')).heap.size = W.heap.size := by simp [World.setCell]
  refine ⟨(h.set o p' q').alloc o _, (k1.fr hf (fun h => by omega)).alloc _, (own_fr k2 hf (fun g hg h => by have := (k2.lt g hg).1; omega)).alloc _, fun j u hu => ?_, by rw [World.size_alloc, hsz]; omega⟩
  have hb := Blk.new ((W.setCell ⟨g9, 0, none⟩ (.int .i64 p')).setCell ⟨g9, 1, none⟩ (.int .i64 q')) 23 #[.int .i64 p', .int .i64 q']
  rw [hsz] at hb
  rw [addr_add, Nat.zero_add, hb.cell, List.getElem?_toArray]
  exact hu
end
end Go.Proofs.YtofabaeadnljbaaDoor
