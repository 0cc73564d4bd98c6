/-
  What holds between the calls of PageAgain.
-/
import Derived.Test.YtilclfeaolhoeaaDoorPgAwake
namespace Go.Proofs.YtilclfeaolhoeaaDoor
set_option linter.unusedSimpArgs false
set_option linter.unusedVariables false
open Go.RowKit

theorem dataB_zero : dataB 0 = zeros 480 := by
  refine List.ext_getElem? (fun i => ?_)
  unfold dataB zeros dataAt
  rw [List.getElem?_map, List.getElem?_replicate]
  by_cases h : i < 480
  · rw [List.getElem?_range h, if_pos h]; simp
  · rw [List.getElem?_eq_none (by rw [List.length_range]; omega), if_neg h]; rfl
theorem curW_append (cur : Nat → Option PgV) (l m : List PgV) : ∀ k, k ≤ l.length → curW cur (l ++ m) k = curW cur l k
  | 0, _ => rfl
  | k + 1, hk => by
    have e : (l ++ m)[k]? = l[k]? := List.getElem?_append_left (by omega)
    unfold curW
    rw [e, curW_append cur l m k (by omega)]
theorem curW_snoc (cur : Nat → Option PgV) (l : List PgV) (x : PgV) : curW cur (l ++ [x]) (l ++ [x]).length = fun no => if no = x.no then some x else curW cur l l.length no := by
  rw [List.length_append, List.length_singleton]
  have e : (l ++ [x])[l.length]? = some x := by rw [List.getElem?_append_right (Nat.le_refl _), Nat.sub_self]; rfl
  conv => lhs; unfold curW
  rw [e, curW_append cur l [x] l.length (Nat.le_refl _)]

def arrOf (ns : List Nat) : Array Value := (ns.map fun (n : Nat) => Value.int .i64 (n : Int)).toArray
theorem arrOf_get (ns : List Nat) (i : Nat) : (arrOf ns)[i]? = ns[i]?.map fun (n : Nat) => Value.int .i64 (n : Int) := by unfold arrOf; rw [List.getElem?_toArray, List.getElem?_map]
theorem arrOf_set (ns : List Nat) (i n : Nat) : (arrOf ns).setIfInBounds i (.int .i64 n) = arrOf (ns.set i n) := by
  unfold arrOf
  rw [List.setIfInBounds_toArray, List.map_set]

structure AgSt (w0 wr : World) (t : TypeId) (d gn p T B0 : Nat) (R : Nat → Prop) (S : DS) (lot : List PgV) (cur : Nat → Option PgV) (v : Value) (l : List PgV) (xs : List (PgV × Value)) (ns : List Nat) : Prop where
  fr0 : Fr Nob w0 wr
  fa : FileAt wr p d 0 8 T
  dk : DiskOk R wr d S
  st : Still S
  ps : PSt S.now 0 8 T lot cur
  rp : ¬ R p
  r0 : ∀ b, R b → w0.heap.size ≤ b ∧ b < B0
  p0 : w0.heap.size ≤ p ∧ p < B0
  g0 : w0.heap.size ≤ gn ∧ gn < B0
  gp : gn ≠ p
  gr : ¬ R gn
  b0 : B0 ≤ wr.heap.size
  row : LfRow B0 wr v l xs
  arr : Blk wr gn t (arrOf ns)
  nsl : ns.length = 8
  ok : ∀ x ∈ l, x.Ok ∧ x.no < 8
  dis : ∀ (i j : Nat) x y, l[i]? = some x → l[j]? = some y → x.no = y.no → i = j
  cv : ∀ (no n : Nat), ns[no]? = some n → (curW cur l l.length no = none ∧ n = 0) ∨ curW cur l l.length no = some ⟨no, n, dataB n⟩
  small : ∀ (no n : Nat), ns[no]? = some n → n ≤ 65535

section
variable {w0 wr w' : World} {t : TypeId} {d gn p T B0 : Nat} {R : Nat → Prop} {S : DS} {lot : List PgV} {cur : Nat → Option PgV} {v : Value} {l : List PgV} {xs : List (PgV × Value)} {ns : List Nat}
theorem AgSt.new (h : AgSt w0 wr t d gn p T B0 R S lot cur v l xs ns) (hf : Fr Nob wr w') : AgSt w0 w' t d gn p T B0 R S lot cur v l xs ns :=
  { h with
    fr0 := h.fr0.trans hf
    fa := h.fa.fr hf (fun h => h)
    dk := h.dk.new hf
    b0 := Nat.le_trans h.b0 hf.size
    row := h.row.fr hf (fun b h => h.elim)
    arr := h.arr.fr hf (fun h => h) }
theorem AgSt.len (h : AgSt w0 wr t d gn p T B0 R S lot cur v l xs ns) : xs.length = l.length := by rw [← h.row.eq, List.length_map]
/-- A page more in the row, behind the append and the note of its number. -/
theorem AgSt.push {wa w7 : World} {v7 xv : Value} {x : PgV} (h : AgSt w0 wr t d gn p T B0 R S lot cur v l xs ns) (hf : Fr Nob wr wa) (hpc : PCell (fun b => b < B0 ∨ some b = v.ownBlock) wa x xv)
    (hown : w7.ownsRow B0 37 3 v7 (xs.length + 1) (pgCells xs ++ [.int .i64 x.no, .int .u64 x.lsn, xv])) (hg : wa.grownBy w7 v.ownBlock) (hat : v7.ownBlock = v.ownBlock ∨ v7.ownBlock = some wa.heap.size)
    (hx : x.Ok) (hno : x.no < 8) (hnew : ∀ y ∈ l, y.no ≠ x.no) (hd : x.d = dataB x.lsn) (hls : x.lsn ≤ 65535) :
    AgSt w0 (w7.setCell ⟨gn, x.no, none⟩ (.int .i64 x.lsn)) t d gn p T B0 R S lot cur v7 (l ++ [x]) (xs ++ [(x, xv)]) (ns.set x.no x.lsn) := by
  have ha := h.new hf
  have hlt := fun g hg => ha.row.own.lt g hg
  have f7 : Fr (fun b => some b = v.ownBlock) wa w7 := Fr.grown (Fr.refl _ _) hg (fun r hr => .inr hr.symm)
  have hnB : ∀ b, b < B0 → ¬ some b = v.ownBlock := fun b hb e => by have := hlt b e.symm; omega
  have f8 : Fr (fun b => b = gn) w7 (w7.setCell ⟨gn, x.no, none⟩ (.int .i64 x.lsn)) := (Fr.refl (fun b => b = gn) w7).setCell (p := ⟨gn, x.no, none⟩) (.inr rfl) _
  have f0 : Fr Nob w0 w7 := ha.fr0.step f7 (fun i hi e => by have := hlt i e.symm; have := h.p0; omega)
  have hsub : ∀ b, b < wa.heap.size → (b < B0 ∨ some b = v.ownBlock ∨ some b = v7.ownBlock) → (b < B0 ∨ some b = v.ownBlock) := fun b hbl hb => by
    rcases hb with hb | hb | hb
    · exact .inl hb
    · exact .inr hb
    · rcases hat with e | e
      · exact .inr (by rw [← e]; exact hb)
      · rw [e] at hb; injection hb with hb; omega
  have hcells : ∀ y yv, PCell (fun b => b < B0 ∨ some b = v.ownBlock) wa y yv → PCell (fun b => b < B0 ∨ some b = v7.ownBlock) w7 y yv := fun y yv hc =>
    ((hc.less hsub).fr f7 (fun b _ hb => .inr (.inl hb))).less (fun b _ hb => hb.elim .inl (fun h => .inr (.inr h)))
  have hrow7 : LfRow B0 w7 v7 (l ++ [x]) (xs ++ [(x, xv)]) := by
    refine ⟨by rw [List.length_append, pgCells_snoc]; exact hown, by rw [List.map_append, ha.row.eq]; rfl, fun y hy => ?_⟩
    rcases List.mem_append.1 hy with hy | hy
    · exact hcells _ _ (ha.row.cells y hy)
    · rw [List.mem_singleton] at hy; subst hy; exact hcells _ _ hpc
  have hgB := h.g0.2
  exact {
    fr0 := f0.setCell (p := ⟨gn, x.no, none⟩) (.inl h.g0.1) _
    fa := (ha.fa.fr f7 (hnB p h.p0.2)).fr f8 (fun e => h.gp e.symm)
    dk := (ha.dk.fr f7 (fun b hb => hnB b (h.r0 b hb).2)).fr f8 (fun b hb e => h.gr (e ▸ hb))
    st := h.st
    ps := h.ps
    rp := h.rp
    r0 := h.r0
    p0 := h.p0
    g0 := h.g0
    gp := h.gp
    gr := h.gr
    b0 := by have := ha.b0; have := f7.size; have := f8.size; omega
    row := hrow7.fr f8 (fun b e => by omega)
    arr := by
      have := (ha.arr.fr f7 (hnB gn hgB)).set_ x.no (.int .i64 x.lsn)
      rwa [arrOf_set] at this
    nsl := by rw [List.length_set]; exact h.nsl
    ok := fun y hy => by
      rcases List.mem_append.1 hy with hy | hy
      · exact h.ok y hy
      · rw [List.mem_singleton] at hy; subst hy; exact ⟨hx, hno⟩
    dis := fun i j a b hi hj hab => by
      have hil := (List.getElem?_eq_some_iff.1 hi).1
      have hjl := (List.getElem?_eq_some_iff.1 hj).1
      rw [List.length_append, List.length_singleton] at hil hjl
      rw [List.getElem?_append] at hi hj
      by_cases h1 : i < l.length
      · rw [if_pos h1] at hi
        by_cases h2 : j < l.length
        · rw [if_pos h2] at hj; exact h.dis i j a b hi hj hab
        · rw [if_neg h2, show j - l.length = 0 from by omega] at hj
          injection hj with hj; subst hj
          exact absurd hab (hnew a (List.mem_of_getElem? hi))
      · rw [if_neg h1, show i - l.length = 0 from by omega] at hi
        injection hi with hi; subst hi
        by_cases h2 : j < l.length
        · rw [if_pos h2] at hj; exact absurd hab.symm (hnew b (List.mem_of_getElem? hj))
        · omega
    cv := fun no n hn => by
      rw [curW_snoc]
      dsimp only
      rw [List.getElem?_set] at hn
      by_cases e : x.no = no
      · rw [if_pos e, if_pos (by rw [h.nsl]; exact hno)] at hn
        injection hn with hn
        subst hn e
        right
        rw [if_pos rfl, ← hd]
      · rw [if_neg e] at hn
        rw [if_neg (fun e2 => e e2.symm)]
        exact h.cv no n hn
    small := fun no n hn => by
      rw [List.getElem?_set] at hn
      split at hn
      · split at hn
        · injection hn with hn; omega
        · cases hn
      · exact h.small no n hn }
/-- The row is written. -/
theorem AgSt.write (h : AgSt w0 wr t d gn p T B0 R S lot cur v l xs ns) (hn0 : 0 < l.length) (hn : l.length ≤ 8) (hT : T + 1 < 4611686018427387904) : ∃ A c, v = .slice A xs.length c ∧
    Calls Tryd.prog 9 #[.pointer (some ⟨p, 0, none⟩), .slice A xs.length c] wr fun e w' => e = .returned (.int .i64 0) ∧ ∃ R' S' cur', AgSt w0 w' t d gn p (T + 1) w'.heap.size R' S' l cur' (.slice none 0 0) [] [] ns := by
  obtain ⟨A, c, rfl, hpg⟩ := h.row.pgs
  have hlen := h.len
  refine ⟨A, c, rfl, ?_⟩
  have hx1 : ∀ x ∈ xs, x.1 ∈ l := fun x hx => by rw [← h.row.eq]; exact List.mem_map_of_mem hx
  refine (write_pst A c xs h.fa h.rp h.dk h.st h.ps (hpg.less (fun b _ hb => by
    rcases hb with hb | hb
    · exact (h.r0 b hb).2
    · rw [hb]; exact h.p0.2)) (fun x hx => h.ok _ (hx1 x hx)) (by omega) (by omega) (fun i j x y hx hy hxy => h.dis i j x.1 y.1 (by rw [← h.row.eq, List.getElem?_map, hx]; rfl) (by rw [← h.row.eq, List.getElem?_map, hy]; rfl) hxy) (by omega) (by omega) hT).mono ?_
  rintro e w' ⟨S', rfl, hd', hst', hps', hfa', hfr⟩
  rw [h.row.eq, hlen] at hps'
  have hlt : ∀ b, R b → b < wr.heap.size := fun b hb => h.dk.lt hb
  have hb0 := h.b0
  have hs := hfr.size
  refine ⟨rfl, Ext R wr w', S', curW cur l l.length, ?_⟩
  have hgF : ¬ (Mut R wr gn ∨ gn = p) := fun hh => by
    rcases hh with hh | hh
    · exact h.gr hh.1
    · exact h.gp hh
  exact {
    fr0 := h.fr0.step hfr (fun i hi hh => by
      rcases hh with hh | hh
      · have := (h.r0 i hh.1).1; omega
      · have := h.p0.1; omega)
    fa := hfa'
    dk := hd'
    st := hst'
    ps := hps'
    rp := fun hh => by
      rcases hh with hh | hh
      · exact h.rp hh
      · have := h.p0.2; omega
    r0 := fun b hh => by
      rcases hh with hh | hh
      · have := h.r0 b hh; omega
      · have := h.fr0.size; omega
    p0 := ⟨h.p0.1, by have := h.p0.2; omega⟩
    g0 := ⟨h.g0.1, by have := h.g0.2; omega⟩
    gp := h.gp
    gr := fun hh => by
      rcases hh with hh | hh
      · exact h.gr hh
      · have := h.g0.2; omega
    b0 := Nat.le_refl _
    row := ⟨World.ownsRow_nil _ _ _ _, rfl, fun x hx => by simp at hx⟩
    arr := h.arr.fr hfr hgF
    nsl := h.nsl
    ok := fun x hx => by simp at hx
    dis := fun i j x y hx => by simp at hx
    cv := h.cv
    small := h.small }
theorem AgSt.crash {cc : Nat} (h : AgSt w0 wr t d gn p T B0 R S lot cur v [] xs ns) : Calls Tryd.prog 10 #[.pointer (some ⟨d, 0, none⟩), .slice none 0 cc] wr fun e w' => e = .returned (.tuple #[]) ∧ AgSt w0 w' t d gn p T w'.heap.size R S lot cur (.slice none 0 0) [] [] ns := by
  refine (Crash_anyD none cc [] h.dk (IntsOut.nil _ _ _) (by simp) (by rw [h.st.waits]; simp)).mono ?_
  rintro e w' ⟨rfl, hd', hfr⟩
  rw [h.st.crash] at hd'
  have hs : wr.heap.size ≤ w'.heap.size := hfr.size
  have hb0 := h.b0
  refine ⟨rfl, ?_⟩
  exact { h with
    fr0 := h.fr0.step hfr (fun i hi hh => by have := (h.r0 i hh.1).1; omega)
    fa := h.fa.fr hfr (fun hh => h.rp hh.1)
    dk := hd'
    r0 := fun b hh => by have := h.r0 b hh; omega
    p0 := ⟨h.p0.1, by have := h.p0.2; omega⟩
    g0 := ⟨h.g0.1, by have := h.g0.2; omega⟩
    b0 := Nat.le_refl _
    row := ⟨World.ownsRow_nil _ _ _ _, rfl, fun x hx => by simp at hx⟩
    arr := h.arr.fr hfr (fun hh => h.gr hh.1) }
theorem AgSt.opened (h : AgSt w0 wr t d gn p T B0 R S lot cur v [] xs ns) : Calls Tryd.prog 7 #[.pointer (some ⟨d, 0, none⟩), .int .i64 0, .int .i64 8, .int .i64 (-1), .slice none 0 0] wr fun e w' => ∃ p' R' S', e = .returned (.pointer (some ⟨p', 0, none⟩)) ∧ AgSt w0 w' t d gn p' T w'.heap.size R' S' lot cur (.slice none 0 0) [] [] ns := by
  refine (opened_pst (at0 := 0) (pages := 8) h.dk h.st (by omega) (by omega) (by omega) h.ps).mono ?_
  rintro e w' ⟨p', R', S', rfl, q1, q2, q3, q4, q5, q6, q7, q8, q9⟩
  have hs : wr.heap.size ≤ w'.heap.size := q9.size
  have hb0 := h.b0
  have hf0 := h.fr0.size
  refine ⟨p', R', S', rfl, ?_⟩
  exact {
    fr0 := h.fr0.step q9 (fun i hi hh => by have := (h.r0 i hh.1).1; omega)
    fa := q3
    dk := q4
    st := q5
    ps := q6
    rp := q7
    r0 := fun b hh => ⟨by
      rcases q8 b hh with hh | hh
      · exact (h.r0 b hh).1
      · omega, q4.lt hh⟩
    p0 := ⟨by omega, q2⟩
    g0 := ⟨h.g0.1, by have := h.g0.2; omega⟩
    gp := by have := h.g0.2; omega
    gr := fun hh => by
      rcases q8 _ hh with hh | hh
      · exact h.gr hh
      · have := h.g0.2; omega
    b0 := Nat.le_refl _
    row := ⟨World.ownsRow_nil _ _ _ _, rfl, fun x hx => by simp at hx⟩
    arr := h.arr.fr q9 (fun hh => h.gr hh.1)
    nsl := h.nsl
    ok := fun x hx => by simp at hx
    dis := fun i j x y hx => by simp at hx
    cv := h.cv
    small := h.small }
theorem AgSt.is_ (h : AgSt w0 wr t d gn p T B0 R S lot cur v [] xs ns) (no n : Nat) (hn : ns[no]? = some n) : Calls Tryd.prog 11 #[.pointer (some ⟨p, 0, none⟩), .int .i64 no, .int .i64 n] wr fun e w' => e = .returned (.bool true) ∧ AgSt w0 w' t d gn p T B0 R S lot cur v [] xs ns := by
  have hno : no < 8 := by have := (List.getElem?_eq_some_iff.1 hn).1; rw [h.nsl] at this; exact this
  refine (is_any no n h.fa h.dk h.st.calm.dead h.ps.sound hno (by have := h.small no n hn; omega)).mono ?_
  rintro e w' ⟨rfl, hf⟩
  refine ⟨?_, h.new hf⟩
  rw [pgAt_cur h.ps no hno]
  rcases h.cv no n hn with ⟨e1, rfl⟩ | e1
  · have e1 : cur no = none := e1
    rw [e1]
    simp only [dataB_zero, and_self, decide_true]
  · have e1 : cur no = some ⟨no, n, dataB n⟩ := e1
    rw [e1]
    simp
end

set_option maxRecDepth 100000 in
theorem Write_none {w : World} {p d at0 pages turn : Nat} (A : Option Addr) (c : Nat) (h : FileAt w p d at0 pages turn) (hpg : pages ≤ 5000) :
    Calls Tryd.prog 9 #[.pointer (some ⟨p, 0, none⟩), .slice A 0 c] w fun e w' => e = .returned (.int .i64 0) ∧ Fr Nob w w' := by
  have qP := len_Pg
  have HMay := Lib.hid (may_ok (R := Nob) A c [] h (fun h => absurd h (by simp)) (by simp) hpg (fun x hx => by simp at hx) (fun i j x y hx => by simp at hx))
  clear h
  go_enter Tryd.func9, Tryd.ntmps9
  go_wp2_with fail
  refine HMay.out.mono ?_
  rintro e w1 ⟨rfl, hf⟩
  have HF := Lib.hid hf
  clear hf
  go_wp2
  try (rw [qP]; go_wp2)
  go_ret
  exact ⟨rfl, HF.out⟩
/-- .. if there is any. -/
theorem AgSt.writeAny {w0 wr : World} {t : TypeId} {d gn p T B0 : Nat} {R : Nat → Prop} {S : DS} {lot : List PgV} {cur : Nat → Option PgV} {v : Value} {l : List PgV} {xs : List (PgV × Value)} {ns : List Nat}
    (h : AgSt w0 wr t d gn p T B0 R S lot cur v l xs ns) (hn : l.length ≤ 8) (hT : T + 1 < 4611686018427387904) : ∃ A c, v = .slice A xs.length c ∧
    Calls Tryd.prog 9 #[.pointer (some ⟨p, 0, none⟩), .slice A xs.length c] wr fun e w' => e = .returned (.int .i64 0) ∧ ∃ T' B' R' S' lot' cur' v' xs', AgSt w0 w' t d gn p T' B' R' S' lot' cur' v' [] xs' ns := by
  by_cases h0 : 0 < l.length
  · obtain ⟨A, c, e, hc⟩ := h.write h0 hn hT
    refine ⟨A, c, e, hc.mono ?_⟩
    rintro e w' ⟨rfl, R', S', cur', ha⟩
    exact ⟨rfl, _, _, _, _, _, _, _, _, ha⟩
  · obtain rfl : l = [] := List.eq_nil_of_length_eq_zero (by omega)
    obtain ⟨A, c, e, _⟩ := h.row.pgs
    have hl := h.len
    refine ⟨A, c, e, ?_⟩
    rw [hl]
    refine (Write_none A c h.fa (by omega)).mono ?_
    rintro e w' ⟨rfl, hf⟩
    exact ⟨rfl, _, _, _, _, _, _, _, _, h.new hf⟩
end Go.Proofs.YtilclfeaolhoeaaDoor
