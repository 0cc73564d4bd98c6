/-
  Commands: words, the line of a command by a shape.
-/
import Derived.Test.YtidohbhcjnmmeaaDoorCmd8
import Derived.Test.YtidohbhcjnmmeaaDoorCmdRef0
namespace Go.Proofs.YtidohbhcjnmmeaaDoor
set_option linter.unusedSimpArgs false
set_option linter.unusedVariables false
open Go.RowKit

/-- Points' numbers. -/
def flat (l : List (Int × Int)) : List Int := l.flatMap fun p => [p.1, p.2]
/-- A word and numbers, parted by blanks. -/
def ln (w : List UInt8) (ns : List Int) : List UInt8 := w ++ ns.flatMap fun n => 32 :: Lib.itoa n
/-- The numbers of a command, as the code has them. -/
def numsT (x : Shp) (c : Cm) : List Int :=
  (if x.kind = 1 then [c.a, c.b] else [c.n]).take x.n ++ flat (if x.kind = 1 then (if x.p < 3 then c.line.take x.p else c.line) else [c.p, c.q].take x.p)
/-- int64. -/
def I64 (n : Int) : Prop := -9223372036854775808 ≤ n ∧ n ≤ 9223372036854775807
structure Cm.Ok (c : Cm) : Prop where
  a : I64 c.a
  b : I64 c.b
  n : I64 c.n
  p : I64 c.p.1 ∧ I64 c.p.2
  q : I64 c.q.1 ∧ I64 c.q.2
  line : ∀ z ∈ c.line, I64 z.1 ∧ I64 z.2
theorem flat_length (l : List (Int × Int)) : (flat l).length = 2 * l.length := by
  unfold flat
  induction l with
  | nil => rfl
  | cons p r ih => simp only [List.flatMap_cons, List.length_append, ih, List.length_cons, List.length_nil]; omega
theorem flat_snoc (l : List (Int × Int)) (p : Int × Int) : flat (l ++ [p]) = flat l ++ [p.1, p.2] := by simp [flat]
theorem flat_in {l : List (Int × Int)} (h : ∀ z ∈ l, I64 z.1 ∧ I64 z.2) : ∀ n ∈ flat l, I64 n := by
  intro n hn
  unfold flat at hn
  obtain ⟨z, hz, hm⟩ := List.mem_flatMap.1 hn
  simp only [List.mem_cons, List.not_mem_nil, or_false] at hm
  rcases hm with rfl | rfl
  · exact (h z hz).1
  · exact (h z hz).2
theorem cells_new (W : World) (l : List Value) (t : TypeId) : ∀ (j : Nat) u, l[j]? = some u → (W.alloc (.cells l.toArray t)).cell? ((⟨W.heap.size, 0, none⟩ : Addr).add j) = some u := by
  intro j u hj
  have := (Blk.new W t l.toArray).cell j
  have e : ((⟨W.heap.size, 0, none⟩ : Addr).add j) = ⟨W.heap.size, j, none⟩ := by rw [Addr.add]; split <;> rename_i h <;> simp_all
  rw [e, this]
  simpa using hj
theorem PtsIn.take {w : World} {A : Option Addr} {l : List (Int × Int)} (h : PtsIn w A l) (k : Nat) : PtsIn w A (l.take k) := fun h0 => by
  obtain ⟨g, o, e, hc⟩ := h (by rw [List.length_take] at h0; omega)
  refine ⟨g, o, e, fun j p hj => hc j p ?_⟩
  rw [List.getElem?_take] at hj
  split at hj
  · exact hj
  · cases hj
/-- A row of numbers, read off its block. -/
def NumRow (w : World) (A : Option Addr) (l : List Int) : Prop := 0 < l.length → ∃ g cur, A = some ⟨g, 0, none⟩ ∧ Blk w g 2 cur ∧ ∀ (j : Nat) x, l[j]? = some x → cur[j]? = some (.int .i64 x)
theorem NumRow.fr {w w' : World} {A : Option Addr} {l : List Int} (h : NumRow w A l) (hf : Fr Nob w w') : NumRow w' A l := fun h0 => by
  obtain ⟨g, cur, e, hb, hc⟩ := h h0
  exact ⟨g, cur, e, hb.fr hf (fun h => h), hc⟩
theorem NumRow.grown {w w' : World} {A : Option Addr} {l : List Int} {base n : Nat} {v : Value} {xs : List Value} (h : NumRow w A l) (ho : w.ownsRow base 9 1 v n xs) (hg : w.grownBy w' v.ownBlock) : NumRow w' A l := fun h0 => by
  obtain ⟨g, cur, e, hb, hc⟩ := h h0
  exact ⟨g, cur, e, hb.grown hg (Blk.own_ne hb ho (by decide)), hc⟩
theorem numRow_of {w : World} {base n : Nat} {v : Value} {l : List Int} (h : w.ownsRow base 2 1 v n (ints l)) : ∃ A c, v = .slice A n c ∧ n = l.length ∧ NumRow w A l := by
  have hn : n = l.length := by have := h.1; rw [ints_length] at this; omega
  rcases h.2 with ⟨e, h1⟩ | ⟨g', cap', cur, e, h1, hh, h2, h3, h4, ht⟩
  · subst e
    exact ⟨none, 0, by rw [h1], hn, fun h0 => by omega⟩
  · refine ⟨_, cap', e, hn, fun h0 => ⟨g', cur, rfl, hh, fun j x hx => ?_⟩⟩
    have hb : (ints l)[j]? = some (.int .i64 x) := by rw [ints_get, hx]; rfl
    rw [← ht, List.getElem?_take] at hb
    split at hb
    · rw [← Array.getElem?_toList]; exact hb
    · cases hb
theorem own_of_blk {w : World} {g base : Nat} {t : TypeId} {cs : List Value} {n : Nat} (h : Blk w g t cs.toArray) (hb : base ≤ g) (hn : n ≤ cs.length) (hm : cs.length ≤ 1000) : w.ownsRow base t 1 (.slice (some ⟨g, 0, none⟩) n cs.length) n (cs.take n) :=
  ⟨by simp; omega, .inr ⟨g, cs.length, cs.toArray, rfl, hb, h, hn, by unfold maxLen; omega, by simp, by simp⟩⟩
theorem ln_join (w : List UInt8) (ns : List Int) : Lib.join (w :: ns.map Lib.itoa) [32] = ln w ns := by
  rw [Lib.join_cons]
  unfold ln Lib.joinTail
  rw [List.map_map, List.flatMap_def]
  rfl
theorem ln_length (w : List UInt8) (ns : List Int) (h : ∀ n ∈ ns, I64 n) : (ln w ns).length ≤ w.length + 22 * ns.length := by
  unfold ln
  rw [List.length_append]
  have : (ns.flatMap fun n => 32 :: Lib.itoa n).length ≤ 22 * ns.length := by
    induction ns with
    | nil => simp
    | cons n r ih =>
      have h1 := Lib.itoa_length_le n (h n (by simp)).1 (h n (by simp)).2
      have h2 := ih (fun m hm => h m (by simp [hm]))
      simp only [List.flatMap_cons, List.length_append, List.length_cons]
      omega
  omega
theorem Join_any (B : Option Addr) (c n : Nat) (ws : List (List UInt8)) (w : World) (h : StrIn w B ws) (hn : n = ws.length) (h0 : 0 < n) (hnc : n ≤ c) (hlen : (Lib.join ws [32]).length ≤ 1000000) (hn2 : n ≤ 1000000) :
    Calls Tryd.prog 32 #[.slice B n c, .string ⟨#[32]⟩] w fun e w' => e = .returned (.string (tx (Lib.join ws [32]))) ∧ Fr Nob w w' := by
  subst hn
  obtain ⟨g, o, rfl, hc⟩ := h h0
  have e : (ws.map tx).map (fun x => x.data.toList) = ws := by rw [List.map_map]; exact List.map_id ws
  have hj : ∀ j (x : ByteArray), (ws.map tx)[j]? = some x → w.cell? ⟨g, o + j, none⟩ = some (.string x) := by
    intro j x hx
    rw [List.getElem?_map] at hx
    cases hw : ws[j]? with
    | none => rw [hw] at hx; cases hx
    | some y => rw [hw] at hx; injection hx with hx; subst hx; exact hc j y hw
  have hl : (ws.map tx).length = ws.length := List.length_map _
  have hbk : g < w.heap.size := by
    have := hc 0 _ (List.getElem?_eq_getElem h0)
    exact cell_lt this
  have := Tryd.strings_Join g o c (ws.map tx) ⟨#[32]⟩ w hj hbk (by rw [hl]; omega) (by rw [hl]; exact hnc) (by rw [e]; exact Nat.le_trans hlen (by decide))
  rw [hl] at this
  refine this.mono ?_
  rintro e' w' ⟨rfl, hb⟩
  rw [e]
  exact ⟨rfl, Fr.of_below hb⟩

set_option maxHeartbeats 3200000 in
set_option maxRecDepth 100000 in
theorem words_p3 (x : Shp) (c : Cm) (v : Value) (w : World) (he : Env w) (hc : CmIn w c v) (hok : c.Ok) (hl : c.line.length ≤ 64) (hk : x.kind = 1) (hn : x.n ≤ 2) (hp : x.p = 3) (hw : x.word.length ≤ 100) :
    Calls Tryd.prog 20 #[x.v, v] w fun e w' => e = .returned (.string (tx (ln x.word (numsT x c)))) ∧ Fr Nob w w' := by
  obtain ⟨i0, hi0, hz0, hz1, hz2⟩ := info_parts' info_i64'
  obtain ⟨s0, hs0, sz0, sz1, sz2⟩ := info_parts' info_str'
  have qL := len_strs
  have qI := len_i64s
  have qP := len_Ps
  have HEn := Lib.hid he
  obtain ⟨wd, kd, op, fr, xn, xp⟩ := x
  dsimp only at hk hn hp hw
  subst hk
  have k3 : ¬ (xp : Int) < 3 := by omega
  have k3' : ¬ xp < 3 := by omega
  clear hp
  obtain ⟨B, m, rfl, hm, hpt⟩ := hc
  obtain ⟨ck, co, ca, cb, cf, cl, ⟨p1, p2⟩, ⟨q1, q2⟩, cn⟩ := c
  have hA : Hid (numsT ⟨wd, 1, op, fr, xn, xp⟩ ⟨ck, co, ca, cb, cf, cl, (p1, p2), (q1, q2), cn⟩ = [ca, cb].take xn ++ flat cl) := by show numsT _ _ = _; unfold numsT; dsimp only; rw [if_pos rfl, if_pos rfl, if_neg k3']
  have HIn : Hid (∀ n ∈ [ca, cb].take xn ++ flat cl, I64 n) := by
    intro n hn
    rcases List.mem_append.1 hn with h | h
    · have := List.mem_of_mem_take h
      simp only [List.mem_cons, List.not_mem_nil, or_false] at this
      rcases this with rfl | rfl
      · exact hok.a
      · exact hok.b
    · exact flat_in hok.line n h
  rw [hA.out]
  obtain ⟨A0, hA0⟩ : ∃ A0, [ca, cb].take xn = A0 := ⟨_, rfl⟩
  have hA0l : A0.length = xn := by rw [← hA0]; simp; omega
  have hNm : (A0 ++ flat cl).length = xn + 2 * cl.length := by rw [List.length_append, hA0l, flat_length]
  have HNm := Lib.hid hNm
  rw [hA0] at HIn ⊢
  unfold Shp.v Cm.v
  dsimp only at hl hm hpt ⊢
  have HPt := Lib.hid hpt
  obtain ⟨M, hM⟩ : ∃ M, cl.length = M := ⟨_, rfl⟩
  have HM := Lib.hid hM
  rw [hM] at hl hm HNm ⊢
  obtain ⟨R, hR⟩ : ∃ R, tx (ln wd (A0 ++ flat cl)) = R := ⟨_, rfl⟩
  have HR := Lib.hid hR
  rw [hR]
  have HA0 := Lib.hid hA0
  have HA0l := Lib.hid hA0l
  clear hR hM hok hpt he hA hA0 hA0l hNm k3'
  have HFw : Hid (Fr Nob w ((((((w.alloc (.cells #[.string (tx wd), .int .i64 1, .int .i64 op, .bool fr, .int .i64 xn, .int .i64 xp] 54)).alloc (.cells #[.int .i64 ck, .int .i64 co, .int .i64 ca, .int .i64 cb, .bool cf, .slice B M m, .int .i64 p1, .int .i64 p2, .int .i64 q1, .int .i64 q2, .int .i64 cn] 32)).alloc (.cells #[.int .i64 cn] 2)).alloc (.cells #[.int .i64 p1, .int .i64 p2, .int .i64 q1, .int .i64 q2] 30)).alloc (.cells #[.int .i64 ca, .int .i64 cb] 2)).alloc (.cells #[.string (tx wd)] 9))) := (((((((Fr.refl _ _).alloc _).alloc _).alloc _).alloc _).alloc _).alloc _)
  have HGo : Hid (Blk ((((((w.alloc (.cells #[.string (tx wd), .int .i64 1, .int .i64 op, .bool fr, .int .i64 xn, .int .i64 xp] 54)).alloc (.cells #[.int .i64 ck, .int .i64 co, .int .i64 ca, .int .i64 cb, .bool cf, .slice B M m, .int .i64 p1, .int .i64 p2, .int .i64 q1, .int .i64 q2, .int .i64 cn] 32)).alloc (.cells #[.int .i64 cn] 2)).alloc (.cells #[.int .i64 p1, .int .i64 p2, .int .i64 q1, .int .i64 q2] 30)).alloc (.cells #[.int .i64 ca, .int .i64 cb] 2)).alloc (.cells #[.string (tx wd)] 9)) (w.heap.size + 1 + 1 + 1 + 1 + 1) 9 #[.string (tx wd)]) := by
    have := Blk.new (((((w.alloc (.cells #[.string (tx wd), .int .i64 1, .int .i64 op, .bool fr, .int .i64 xn, .int .i64 xp] 54)).alloc (.cells #[.int .i64 ck, .int .i64 co, .int .i64 ca, .int .i64 cb, .bool cf, .slice B M m, .int .i64 p1, .int .i64 p2, .int .i64 q1, .int .i64 q2, .int .i64 cn] 32)).alloc (.cells #[.int .i64 cn] 2)).alloc (.cells #[.int .i64 p1, .int .i64 p2, .int .i64 q1, .int .i64 q2] 30)).alloc (.cells #[.int .i64 ca, .int .i64 cb] 2)) 9 #[.string (tx wd)]
    simp only [World.size_alloc] at this
    exact this
  have HGl : Hid (Blk ((((((w.alloc (.cells #[.string (tx wd), .int .i64 1, .int .i64 op, .bool fr, .int .i64 xn, .int .i64 xp] 54)).alloc (.cells #[.int .i64 ck, .int .i64 co, .int .i64 ca, .int .i64 cb, .bool cf, .slice B M m, .int .i64 p1, .int .i64 p2, .int .i64 q1, .int .i64 q2, .int .i64 cn] 32)).alloc (.cells #[.int .i64 cn] 2)).alloc (.cells #[.int .i64 p1, .int .i64 p2, .int .i64 q1, .int .i64 q2] 30)).alloc (.cells #[.int .i64 ca, .int .i64 cb] 2)).alloc (.cells #[.string (tx wd)] 9)) (w.heap.size + 1 + 1 + 1 + 1) 2 #[.int .i64 ca, .int .i64 cb]) := by
    have := Blk.new ((((w.alloc (.cells #[.string (tx wd), .int .i64 1, .int .i64 op, .bool fr, .int .i64 xn, .int .i64 xp] 54)).alloc (.cells #[.int .i64 ck, .int .i64 co, .int .i64 ca, .int .i64 cb, .bool cf, .slice B M m, .int .i64 p1, .int .i64 p2, .int .i64 q1, .int .i64 q2, .int .i64 cn] 32)).alloc (.cells #[.int .i64 cn] 2)).alloc (.cells #[.int .i64 p1, .int .i64 p2, .int .i64 q1, .int .i64 q2] 30)) 2 #[.int .i64 ca, .int .i64 cb]
    simp only [World.size_alloc] at this
    exact (this.alloc _)
  have HOwn : Hid (((((((w.alloc (.cells #[.string (tx wd), .int .i64 1, .int .i64 op, .bool fr, .int .i64 xn, .int .i64 xp] 54)).alloc (.cells #[.int .i64 ck, .int .i64 co, .int .i64 ca, .int .i64 cb, .bool cf, .slice B M m, .int .i64 p1, .int .i64 p2, .int .i64 q1, .int .i64 q2, .int .i64 cn] 32)).alloc (.cells #[.int .i64 cn] 2)).alloc (.cells #[.int .i64 p1, .int .i64 p2, .int .i64 q1, .int .i64 q2] 30)).alloc (.cells #[.int .i64 ca, .int .i64 cb] 2)).alloc (.cells #[.string (tx wd)] 9)).ownsRow w.heap.size 2 1 (.slice (some ⟨w.heap.size + 1 + 1 + 1 + 1, 0, none⟩) xn 2) (xn + 2 * 0) (ints (A0 ++ flat (cl.take 0)))) := by
    have := own_of_blk (cs := [.int .i64 ca, .int .i64 cb]) HGl.out (base := w.heap.size) (n := xn) (by omega) (by simp; omega) (by simp)
    rw [show ints (A0 ++ flat (cl.take 0)) = [.int .i64 ca, .int .i64 cb].take xn by rw [← HA0.out]; simp [ints, flat], Nat.mul_zero, Nat.add_zero]
    exact this
  go_enter Tryd.func20, Tryd.ntmps20
  go_wp2
  go_loopw [5, 52] (fun v i wr => ∃ k : Nat, k ≤ M ∧ i = .int .i64 k ∧ Hid (wr.ownsRow w.heap.size 2 1 v (xn + 2 * k) (ints (A0 ++ flat (cl.take k)))) ∧ Hid (Blk wr (w.heap.size + 1 + 1 + 1 + 1 + 1) 9 #[.string (tx wd)]) ∧ Hid (Fr Nob w wr)) (fun _ i _ => M - (intOf i).toNat)
  case atStart => exact ⟨0, Nat.zero_le _, rfl, HOwn.out, HGo.out, HFw.out⟩
  case round =>
    obtain ⟨k, hk, rfl, ho, hB, hF⟩ := hrel
    by_cases hlt : k < M
    · have hkl : k < cl.length := by rw [HM.out]; exact hlt
      obtain ⟨g, o, rfl, hcc⟩ := HPt.out (by omega)
      obtain ⟨c0, c1⟩ := hcc k _ (List.getElem?_eq_getElem hkl)
      have hgz := cell_lt c0
      dsimp only at hgz
      rw [← hF.out.cell (cell_lt c0) (fun h => h)] at c0
      rw [← hF.out.cell (cell_lt c1) (fun h => h)] at c1
      have hgw := Nat.lt_of_lt_of_le hgz hF.out.size
      have htk : cl.take (k + 1) = cl.take k ++ [cl[k]] := (List.take_append_getElem hkl).symm
      obtain ⟨z, hz⟩ : ∃ z, cl[k] = z := ⟨_, rfl⟩
      rw [hz] at c0 c1 htk
      have HTk := Lib.hid htk
      obtain ⟨x1, x2⟩ := z
      dsimp only at c0 c1
      clear htk hz hcc
      have hF2 : Fr Nob wr ((wr.alloc (.cells #[.int .i64 x1, .int .i64 x2] 30)).alloc (.cells #[.int .i64 x1, .int .i64 x2] 2)) := ((Fr.refl _ _).alloc _).alloc _
      have HO : Hid (((wr.alloc (.cells #[.int .i64 x1, .int .i64 x2] 30)).alloc (.cells #[.int .i64 x1, .int .i64 x2] 2)).ownsRow w.heap.size 2 1 u5 (xn + 2 * k) (ints (A0 ++ flat (cl.take k)))) := own_fr ho.out hF2 (fun _ _ h => h)
      have hnw := cells_new (wr.alloc (.cells #[.int .i64 x1, .int .i64 x2] 30)) [.int .i64 x1, .int .i64 x2] 2
      rw [World.size_alloc] at hnw
      have HNw := Lib.hid hnw
      clear hnw
      have HB2 := Lib.hid (hB.out.fr hF2 (fun h => h))
      have hb04 : w.heap.size ≤ ((wr.alloc (.cells #[.int .i64 x1, .int .i64 x2] 30)).alloc (.cells #[.int .i64 x1, .int .i64 x2] 2)).heap.size := Nat.le_trans hF.out.size hF2.size

      have HF2 := Lib.hid (hF.out.trans hF2)
      obtain ⟨K, hK⟩ : ∃ K, xn + 2 * k = K := ⟨_, rfl⟩
      have HK := Lib.hid hK
      have hKb : K ≤ 200 := by omega
      rw [hK] at HO
      clear ho hF2 hF hB hK
      go_wp2_with (at_builtin; go_must (refine wpList_append_own_at _ rfl (.tmp 56) (.tmp 61) 55 rfl w.heap.size 2 i0 (.int .i64 0) 1 8 Tryd.underlying55 hi0 hz0 hz1 hz2 rfl (by decide) u5 K (ints (A0 ++ flat (cl.take k))) rfl HO.out ⟨wr.heap.size + 1, 0, none⟩ 2 2 [.int .i64 x1, .int .i64 x2] rfl rfl HNw.out (by simp [Value.oneCell']) (by unfold maxLen; omega) (by omega) hb04 ?_); intro v7 w7 hown7 hg7 hn7 hat7)
      have HO7 : Hid (w7.ownsRow w.heap.size 2 1 v7 (xn + 2 * (k + 1)) (ints (A0 ++ flat (cl.take (k + 1))))) := by
        rw [HTk.out, flat_snoc, ← List.append_assoc, ints_append, show xn + 2 * (k + 1) = K + 2 by have := HK.out; omega]; exact hown7
      have HB7 : Hid (Blk w7 (w.heap.size + 1 + 1 + 1 + 1 + 1) 9 #[.string (tx wd)]) := HB2.out.grown hg7 (Blk.own_ne HB2.out HO.out (by decide))
      have HF7 : Hid (Fr Nob w w7) := Fr.grown HF2.out hg7 (fun r hr => .inl (HO.out.lt r hr).1)

      clear hown7 hg7 hn7 hat7
      go_wp2
      go_roundw
      case rel => first | exact ⟨k + 1, by omega, by go_num, HO7, HB7, HF7⟩ | exact ⟨_, _, _, ⟨k + 1, by omega, rfl, HO7, HB7, HF7⟩, rfl, rfl, by simp⟩
      case measure => simp [intOf]; omega
    · obtain rfl : k = M := by omega
      have hall : cl.take k = cl := List.take_of_length_le (by rw [HM.out]; exact Nat.le_refl _)
      rw [hall] at ho
      obtain ⟨A, ca', rfl, hAn, hrow⟩ := numRow_of ho.out
      have HRow := Lib.hid hrow
      have HFr := Lib.hid hF.out
      have HOw2 : Hid (wr.ownsRow w.heap.size 9 1 (.slice (some ⟨w.heap.size + 1 + 1 + 1 + 1 + 1, 0, none⟩) 1 1) 1 (strs ([wd] ++ ((A0 ++ flat cl).take 0).map Lib.itoa))) := own_of_blk (cs := [.string (tx wd)]) hB.out (by omega) (Nat.le_refl 1) (by simp)
      obtain ⟨nums, hnums⟩ : ∃ nums, A0 ++ flat cl = nums := ⟨_, rfl⟩
      rw [hnums] at HRow HOw2 HIn HR
      obtain ⟨K, hK⟩ : ∃ K, xn + 2 * k = K := ⟨_, rfl⟩
      have hKb : K ≤ 200 := by omega
      have HKl : Hid (nums.length = K) := by show _ = _; rw [← hnums, HNm.out, hK]
      rw [hK]
      clear hall ho hB hF hrow hnums hK hAn
      go_wp2
      go_loopw [7, 66] (fun v i wr => ∃ k : Nat, k ≤ K ∧ i = .int .i64 k ∧ Hid (wr.ownsRow w.heap.size 9 1 v (1 + k) (strs ([wd] ++ (nums.take k).map Lib.itoa))) ∧ Hid (NumRow wr A nums) ∧ Hid (Fr Nob w wr)) (fun _ i _ => K - (intOf i).toNat)
      case atStart => exact ⟨0, Nat.zero_le _, rfl, HOw2.out, HRow.out, HFr.out⟩
      case round =>
        obtain ⟨k2, hk2, rfl, ho, hrow, hF⟩ := hrel
        by_cases hlt2 : k2 < K
        · have hkl : k2 < nums.length := by rw [HKl.out]; exact hlt2
          obtain ⟨g, cur, rfl, hgb, hcur⟩ := hrow.out (by omega)
          have c0 := (hgb.cell k2).trans (hcur k2 _ (List.getElem?_eq_getElem hkl))
          have hgw := hgb.lt
          have htk : nums.take (k2 + 1) = nums.take k2 ++ [nums[k2]] := (List.take_append_getElem hkl).symm
          have hi64 := HIn.out _ (List.getElem_mem hkl)
          obtain ⟨z, hz⟩ : ∃ z, nums[k2] = z := ⟨_, rfl⟩
          rw [hz] at c0 htk hi64
          have HTk := Lib.hid htk
          have HFI := Lib.hid (FormatInt_any z hi64.1 hi64.2 wr (HEn.out.new hF.out))
          clear htk hz hgb hcur hi64
          go_wp2_with fail
          refine HFI.out.mono ?_
          rintro e w1 ⟨rfl, hf1⟩
          obtain ⟨T, hT⟩ : ∃ T, Lib.itoa z = T := ⟨_, rfl⟩
          rw [hT]
          have hf2 : Fr Nob wr (w1.alloc (.cells #[.string (tx T)] 9)) := hf1.alloc _
          have HO : Hid ((w1.alloc (.cells #[.string (tx T)] 9)).ownsRow w.heap.size 9 1 u7 (1 + k2) (strs ([wd] ++ (nums.take k2).map Lib.itoa))) := own_fr ho.out hf2 (fun _ _ h => h)
          have HNw := Lib.hid (cell_one_new w1 (.string (tx T)) 9)
          have HRw := Lib.hid (hrow.out.fr hf2)
          have HF2 := Lib.hid (hF.out.trans hf2)
          have hb04 : w.heap.size ≤ (w1.alloc (.cells #[.string (tx T)] 9)).heap.size := HF2.out.size
          have HT := Lib.hid hT
          clear ho hf1 hf2 hrow hF c0 HFI hT
          go_wp2_with (at_builtin; go_must (refine wpList_append_own_at _ rfl (.tmp 70) (.tmp 73) 47 rfl w.heap.size 9 s0 (.string ⟨#[]⟩) 1 16 Tryd.underlying47 hs0 sz0 sz1 sz2 rfl (by decide) u7 (1 + k2) (strs ([wd] ++ (nums.take k2).map Lib.itoa)) rfl HO.out ⟨w1.heap.size, 0, none⟩ 1 1 [.string (tx T)] rfl rfl HNw.out (by simp [Value.oneCell']) (by unfold maxLen; omega) (by omega) hb04 ?_); intro v7 w7 hown7 hg7 hn7 hat7)
          have HO7 : Hid (w7.ownsRow w.heap.size 9 1 v7 (1 + (k2 + 1)) (strs ([wd] ++ (nums.take (k2 + 1)).map Lib.itoa))) := by
            rw [HTk.out, List.map_append, ← List.append_assoc, strs_append, show 1 + (k2 + 1) = 1 + k2 + 1 by omega, ← HT.out] at *; exact hown7
          have HR7 := Lib.hid (HRw.out.grown HO.out hg7)
          have HF7 : Hid (Fr Nob w w7) := Fr.grown HF2.out hg7 (fun r hr => .inl (HO.out.lt r hr).1)
          clear hown7 hg7 hn7 hat7
          go_wp2
          go_roundw
          case rel => first | exact ⟨k2 + 1, by omega, by go_num, HO7, HR7, HF7⟩ | exact ⟨_, _, _, ⟨k2 + 1, by omega, rfl, HO7, HR7, HF7⟩, rfl, rfl, by simp⟩
          case measure => simp [intOf]; omega
        · obtain rfl : k2 = K := by omega
          have hall : nums.take k2 = nums := List.take_of_length_le (by rw [HKl.out]; exact Nat.le_refl _)
          rw [hall] at ho
          obtain ⟨Bo, co', rfl, hnc, hI, _⟩ := strIn_row ho.out (by simp [HKl.out]; omega)
          have hlj := ln_length wd nums HIn.out
          have HJ := Lib.hid (Join_any Bo co' (1 + k2) ([wd] ++ nums.map Lib.itoa) wr hI (by simp [HKl.out]; omega) (by omega) hnc (by rw [List.singleton_append, ln_join]; have := HKl.out; omega) (by omega))
          have hjl : Lib.join ([wd] ++ nums.map Lib.itoa) [32] = ln wd nums := ln_join wd nums
          rw [hjl, HR.out] at HJ
          clear hall ho hI hlj hjl hrow
          go_wp2_with fail
          refine HJ.out.mono ?_
          rintro e w9 ⟨rfl, hf9⟩
          have HF9 := Lib.hid (hF.out.trans hf9)
          clear hf9
          go_wp2
          go_ret
          exact ⟨rfl, HF9.out⟩

set_option maxHeartbeats 3200000 in
set_option maxRecDepth 100000 in
theorem words_p2 (x : Shp) (c : Cm) (v : Value) (w : World) (he : Env w) (hc : CmIn w c v) (hok : c.Ok) (hl : c.line.length ≤ 64) (hk : x.kind = 1) (hn : x.n ≤ 2) (hp : x.p < 3) (hw : x.word.length ≤ 100) :
    Calls Tryd.prog 20 #[x.v, v] w fun e w' => e = .returned (.string (tx (ln x.word (numsT x c)))) ∧ Fr Nob w w' := by
  obtain ⟨i0, hi0, hz0, hz1, hz2⟩ := info_parts' info_i64'
  obtain ⟨s0, hs0, sz0, sz1, sz2⟩ := info_parts' info_str'
  have qL := len_strs
  have qI := len_i64s
  have qP := len_Ps
  have HEn := Lib.hid he
  obtain ⟨wd, kd, op, fr, xn, xp⟩ := x
  dsimp only at hk hn hp hw
  subst hk
  have k3 : (xp : Int) < 3 := by omega
  have k3' : xp < 3 := by omega
  clear hp
  obtain ⟨B, m, rfl, hm, hpt⟩ := hc
  obtain ⟨ck, co, ca, cb, cf, cl, ⟨p1, p2⟩, ⟨q1, q2⟩, cn⟩ := c
  have hA : Hid (numsT ⟨wd, 1, op, fr, xn, xp⟩ ⟨ck, co, ca, cb, cf, cl, (p1, p2), (q1, q2), cn⟩ = [ca, cb].take xn ++ flat (cl.take xp)) := by show numsT _ _ = _; unfold numsT; dsimp only; rw [if_pos rfl, if_pos rfl, if_pos k3']
  have HIn : Hid (∀ n ∈ [ca, cb].take xn ++ flat (cl.take xp), I64 n) := by
    intro n hn
    rcases List.mem_append.1 hn with h | h
    · have := List.mem_of_mem_take h
      simp only [List.mem_cons, List.not_mem_nil, or_false] at this
      rcases this with rfl | rfl
      · exact hok.a
      · exact hok.b
    · exact flat_in (fun z hz => hok.line z (List.mem_of_mem_take hz)) n h
  rw [hA.out]
  obtain ⟨A0, hA0⟩ : ∃ A0, [ca, cb].take xn = A0 := ⟨_, rfl⟩
  have hA0l : A0.length = xn := by rw [← hA0]; simp; omega
  have hNm : (A0 ++ flat (cl.take xp)).length = xn + 2 * (cl.take xp).length := by rw [List.length_append, hA0l, flat_length]
  have HNm := Lib.hid hNm
  rw [hA0] at HIn ⊢
  unfold Shp.v Cm.v
  dsimp only at hl hm hpt ⊢
  have HPt := Lib.hid (hpt.take xp)
  obtain ⟨N, hN⟩ : ∃ N, cl.length = N := ⟨_, rfl⟩
  rw [hN] at hl hm ⊢
  obtain ⟨M, hM⟩ : ∃ M, (cl.take xp).length = M := ⟨_, rfl⟩
  have HM := Lib.hid hM
  rw [hM] at HNm
  have hMM : M = min xp N := by rw [← hM, List.length_take, hN]
  obtain ⟨pts, hpts⟩ : ∃ pts, cl.take xp = pts := ⟨_, rfl⟩
  rw [hpts] at HM HNm HPt HIn ⊢
  obtain ⟨R, hR⟩ : ∃ R, tx (ln wd (A0 ++ flat pts)) = R := ⟨_, rfl⟩
  have HR := Lib.hid hR
  rw [hR]
  have HA0 := Lib.hid hA0
  have HA0l := Lib.hid hA0l
  have hMxp : M ≤ 2 := by omega
  have hMN : M ≤ N := by omega
  have HMM := Lib.hid hMM
  clear hR hM hok hpt he hA hA0 hA0l hNm k3' hpts hN
  have HFw : Hid (Fr Nob w ((((((w.alloc (.cells #[.string (tx wd), .int .i64 1, .int .i64 op, .bool fr, .int .i64 xn, .int .i64 xp] 54)).alloc (.cells #[.int .i64 ck, .int .i64 co, .int .i64 ca, .int .i64 cb, .bool cf, .slice B N m, .int .i64 p1, .int .i64 p2, .int .i64 q1, .int .i64 q2, .int .i64 cn] 32)).alloc (.cells #[.int .i64 cn] 2)).alloc (.cells #[.int .i64 p1, .int .i64 p2, .int .i64 q1, .int .i64 q2] 30)).alloc (.cells #[.int .i64 ca, .int .i64 cb] 2)).alloc (.cells #[.string (tx wd)] 9))) := (((((((Fr.refl _ _).alloc _).alloc _).alloc _).alloc _).alloc _).alloc _)
  have HGo : Hid (Blk ((((((w.alloc (.cells #[.string (tx wd), .int .i64 1, .int .i64 op, .bool fr, .int .i64 xn, .int .i64 xp] 54)).alloc (.cells #[.int .i64 ck, .int .i64 co, .int .i64 ca, .int .i64 cb, .bool cf, .slice B N m, .int .i64 p1, .int .i64 p2, .int .i64 q1, .int .i64 q2, .int .i64 cn] 32)).alloc (.cells #[.int .i64 cn] 2)).alloc (.cells #[.int .i64 p1, .int .i64 p2, .int .i64 q1, .int .i64 q2] 30)).alloc (.cells #[.int .i64 ca, .int .i64 cb] 2)).alloc (.cells #[.string (tx wd)] 9)) (w.heap.size + 1 + 1 + 1 + 1 + 1) 9 #[.string (tx wd)]) := by
    have := Blk.new (((((w.alloc (.cells #[.string (tx wd), .int .i64 1, .int .i64 op, .bool fr, .int .i64 xn, .int .i64 xp] 54)).alloc (.cells #[.int .i64 ck, .int .i64 co, .int .i64 ca, .int .i64 cb, .bool cf, .slice B N m, .int .i64 p1, .int .i64 p2, .int .i64 q1, .int .i64 q2, .int .i64 cn] 32)).alloc (.cells #[.int .i64 cn] 2)).alloc (.cells #[.int .i64 p1, .int .i64 p2, .int .i64 q1, .int .i64 q2] 30)).alloc (.cells #[.int .i64 ca, .int .i64 cb] 2)) 9 #[.string (tx wd)]
    simp only [World.size_alloc] at this
    exact this
  have HGl : Hid (Blk ((((((w.alloc (.cells #[.string (tx wd), .int .i64 1, .int .i64 op, .bool fr, .int .i64 xn, .int .i64 xp] 54)).alloc (.cells #[.int .i64 ck, .int .i64 co, .int .i64 ca, .int .i64 cb, .bool cf, .slice B N m, .int .i64 p1, .int .i64 p2, .int .i64 q1, .int .i64 q2, .int .i64 cn] 32)).alloc (.cells #[.int .i64 cn] 2)).alloc (.cells #[.int .i64 p1, .int .i64 p2, .int .i64 q1, .int .i64 q2] 30)).alloc (.cells #[.int .i64 ca, .int .i64 cb] 2)).alloc (.cells #[.string (tx wd)] 9)) (w.heap.size + 1 + 1 + 1 + 1) 2 #[.int .i64 ca, .int .i64 cb]) := by
    have := Blk.new ((((w.alloc (.cells #[.string (tx wd), .int .i64 1, .int .i64 op, .bool fr, .int .i64 xn, .int .i64 xp] 54)).alloc (.cells #[.int .i64 ck, .int .i64 co, .int .i64 ca, .int .i64 cb, .bool cf, .slice B N m, .int .i64 p1, .int .i64 p2, .int .i64 q1, .int .i64 q2, .int .i64 cn] 32)).alloc (.cells #[.int .i64 cn] 2)).alloc (.cells #[.int .i64 p1, .int .i64 p2, .int .i64 q1, .int .i64 q2] 30)) 2 #[.int .i64 ca, .int .i64 cb]
    simp only [World.size_alloc] at this
    exact (this.alloc _)
  have HOwn : Hid (((((((w.alloc (.cells #[.string (tx wd), .int .i64 1, .int .i64 op, .bool fr, .int .i64 xn, .int .i64 xp] 54)).alloc (.cells #[.int .i64 ck, .int .i64 co, .int .i64 ca, .int .i64 cb, .bool cf, .slice B N m, .int .i64 p1, .int .i64 p2, .int .i64 q1, .int .i64 q2, .int .i64 cn] 32)).alloc (.cells #[.int .i64 cn] 2)).alloc (.cells #[.int .i64 p1, .int .i64 p2, .int .i64 q1, .int .i64 q2] 30)).alloc (.cells #[.int .i64 ca, .int .i64 cb] 2)).alloc (.cells #[.string (tx wd)] 9)).ownsRow w.heap.size 2 1 (.slice (some ⟨w.heap.size + 1 + 1 + 1 + 1, 0, none⟩) xn 2) (xn + 2 * 0) (ints (A0 ++ flat (pts.take 0)))) := by
    have := own_of_blk (cs := [.int .i64 ca, .int .i64 cb]) HGl.out (base := w.heap.size) (n := xn) (by omega) (by simp; omega) (by simp)
    rw [show ints (A0 ++ flat (pts.take 0)) = [.int .i64 ca, .int .i64 cb].take xn by rw [← HA0.out]; simp [ints, flat], Nat.mul_zero, Nat.add_zero]
    exact this
  have hmin : min (xp : Int) (N : Int) = (M : Int) := by omega
  clear hMM
  go_enter Tryd.func20, Tryd.ntmps20
  go_wp2
  go_loopw [5, 52] (fun v i wr => ∃ k : Nat, k ≤ M ∧ i = .int .i64 k ∧ Hid (wr.ownsRow w.heap.size 2 1 v (xn + 2 * k) (ints (A0 ++ flat (pts.take k)))) ∧ Hid (Blk wr (w.heap.size + 1 + 1 + 1 + 1 + 1) 9 #[.string (tx wd)]) ∧ Hid (Fr Nob w wr)) (fun _ i _ => M - (intOf i).toNat)
  case atStart => exact ⟨0, Nat.zero_le _, rfl, HOwn.out, HGo.out, HFw.out⟩
  case round =>
    obtain ⟨k, hk, rfl, ho, hB, hF⟩ := hrel
    by_cases hlt : k < M
    · have hkl : k < pts.length := by rw [HM.out]; exact hlt
      obtain ⟨g, o, rfl, hcc⟩ := HPt.out (by omega)
      obtain ⟨c0, c1⟩ := hcc k _ (List.getElem?_eq_getElem hkl)
      have hgz := cell_lt c0
      dsimp only at hgz
      rw [← hF.out.cell (cell_lt c0) (fun h => h)] at c0
      rw [← hF.out.cell (cell_lt c1) (fun h => h)] at c1
      have hgw := Nat.lt_of_lt_of_le hgz hF.out.size
      have htk : pts.take (k + 1) = pts.take k ++ [pts[k]] := (List.take_append_getElem hkl).symm
      obtain ⟨z, hz⟩ : ∃ z, pts[k] = z := ⟨_, rfl⟩
      rw [hz] at c0 c1 htk
      have HTk := Lib.hid htk
      obtain ⟨x1, x2⟩ := z
      dsimp only at c0 c1
      clear htk hz hcc
      have hF2 : Fr Nob wr ((wr.alloc (.cells #[.int .i64 x1, .int .i64 x2] 30)).alloc (.cells #[.int .i64 x1, .int .i64 x2] 2)) := ((Fr.refl _ _).alloc _).alloc _
      have HO : Hid (((wr.alloc (.cells #[.int .i64 x1, .int .i64 x2] 30)).alloc (.cells #[.int .i64 x1, .int .i64 x2] 2)).ownsRow w.heap.size 2 1 u5 (xn + 2 * k) (ints (A0 ++ flat (pts.take k)))) := own_fr ho.out hF2 (fun _ _ h => h)
      have hnw := cells_new (wr.alloc (.cells #[.int .i64 x1, .int .i64 x2] 30)) [.int .i64 x1, .int .i64 x2] 2
      rw [World.size_alloc] at hnw
      have HNw := Lib.hid hnw
      clear hnw
      have HB2 := Lib.hid (hB.out.fr hF2 (fun h => h))
      have hb04 : w.heap.size ≤ ((wr.alloc (.cells #[.int .i64 x1, .int .i64 x2] 30)).alloc (.cells #[.int .i64 x1, .int .i64 x2] 2)).heap.size := Nat.le_trans hF.out.size hF2.size

      have HF2 := Lib.hid (hF.out.trans hF2)
      obtain ⟨K, hK⟩ : ∃ K, xn + 2 * k = K := ⟨_, rfl⟩
      have HK := Lib.hid hK
      have hKb : K ≤ 200 := by omega
      rw [hK] at HO
      clear ho hF2 hF hB hK
      go_wp2_with (at_builtin; go_must (refine wpList_append_own_at _ rfl (.tmp 56) (.tmp 61) 55 rfl w.heap.size 2 i0 (.int .i64 0) 1 8 Tryd.underlying55 hi0 hz0 hz1 hz2 rfl (by decide) u5 K (ints (A0 ++ flat (pts.take k))) rfl HO.out ⟨wr.heap.size + 1, 0, none⟩ 2 2 [.int .i64 x1, .int .i64 x2] rfl rfl HNw.out (by simp [Value.oneCell']) (by unfold maxLen; omega) (by omega) hb04 ?_); intro v7 w7 hown7 hg7 hn7 hat7)
      have HO7 : Hid (w7.ownsRow w.heap.size 2 1 v7 (xn + 2 * (k + 1)) (ints (A0 ++ flat (pts.take (k + 1))))) := by
        rw [HTk.out, flat_snoc, ← List.append_assoc, ints_append, show xn + 2 * (k + 1) = K + 2 by have := HK.out; omega]; exact hown7
      have HB7 : Hid (Blk w7 (w.heap.size + 1 + 1 + 1 + 1 + 1) 9 #[.string (tx wd)]) := HB2.out.grown hg7 (Blk.own_ne HB2.out HO.out (by decide))
      have HF7 : Hid (Fr Nob w w7) := Fr.grown HF2.out hg7 (fun r hr => .inl (HO.out.lt r hr).1)

      clear hown7 hg7 hn7 hat7
      go_wp2
      go_roundw
      case rel => first | exact ⟨k + 1, by omega, by go_num, HO7, HB7, HF7⟩ | exact ⟨_, _, _, ⟨k + 1, by omega, rfl, HO7, HB7, HF7⟩, rfl, rfl, by simp⟩
      case measure => simp [intOf]; omega
    · obtain rfl : k = M := by omega
      have hall : pts.take k = pts := List.take_of_length_le (by rw [HM.out]; exact Nat.le_refl _)
      rw [hall] at ho
      obtain ⟨A, ca', rfl, hAn, hrow⟩ := numRow_of ho.out
      have HRow := Lib.hid hrow
      have HFr := Lib.hid hF.out
      have HOw2 : Hid (wr.ownsRow w.heap.size 9 1 (.slice (some ⟨w.heap.size + 1 + 1 + 1 + 1 + 1, 0, none⟩) 1 1) 1 (strs ([wd] ++ ((A0 ++ flat pts).take 0).map Lib.itoa))) := own_of_blk (cs := [.string (tx wd)]) hB.out (by omega) (Nat.le_refl 1) (by simp)
      obtain ⟨nums, hnums⟩ : ∃ nums, A0 ++ flat pts = nums := ⟨_, rfl⟩
      rw [hnums] at HRow HOw2 HIn HR
      obtain ⟨K, hK⟩ : ∃ K, xn + 2 * k = K := ⟨_, rfl⟩
      have hKb : K ≤ 200 := by omega
      have HKl : Hid (nums.length = K) := by show _ = _; rw [← hnums, HNm.out, hK]
      rw [hK]
      clear hall ho hB hF hrow hnums hK hAn
      go_wp2
      go_loopw [7, 66] (fun v i wr => ∃ k : Nat, k ≤ K ∧ i = .int .i64 k ∧ Hid (wr.ownsRow w.heap.size 9 1 v (1 + k) (strs ([wd] ++ (nums.take k).map Lib.itoa))) ∧ Hid (NumRow wr A nums) ∧ Hid (Fr Nob w wr)) (fun _ i _ => K - (intOf i).toNat)
      case atStart => exact ⟨0, Nat.zero_le _, rfl, HOw2.out, HRow.out, HFr.out⟩
      case round =>
        obtain ⟨k2, hk2, rfl, ho, hrow, hF⟩ := hrel
        by_cases hlt2 : k2 < K
        · have hkl : k2 < nums.length := by rw [HKl.out]; exact hlt2
          obtain ⟨g, cur, rfl, hgb, hcur⟩ := hrow.out (by omega)
          have c0 := (hgb.cell k2).trans (hcur k2 _ (List.getElem?_eq_getElem hkl))
          have hgw := hgb.lt
          have htk : nums.take (k2 + 1) = nums.take k2 ++ [nums[k2]] := (List.take_append_getElem hkl).symm
          have hi64 := HIn.out _ (List.getElem_mem hkl)
          obtain ⟨z, hz⟩ : ∃ z, nums[k2] = z := ⟨_, rfl⟩
          rw [hz] at c0 htk hi64
          have HTk := Lib.hid htk
          have HFI := Lib.hid (FormatInt_any z hi64.1 hi64.2 wr (HEn.out.new hF.out))
          clear htk hz hgb hcur hi64
          go_wp2_with fail
          refine HFI.out.mono ?_
          rintro e w1 ⟨rfl, hf1⟩
          obtain ⟨T, hT⟩ : ∃ T, Lib.itoa z = T := ⟨_, rfl⟩
          rw [hT]
          have hf2 : Fr Nob wr (w1.alloc (.cells #[.string (tx T)] 9)) := hf1.alloc _
          have HO : Hid ((w1.alloc (.cells #[.string (tx T)] 9)).ownsRow w.heap.size 9 1 u7 (1 + k2) (strs ([wd] ++ (nums.take k2).map Lib.itoa))) := own_fr ho.out hf2 (fun _ _ h => h)
          have HNw := Lib.hid (cell_one_new w1 (.string (tx T)) 9)
          have HRw := Lib.hid (hrow.out.fr hf2)
          have HF2 := Lib.hid (hF.out.trans hf2)
          have hb04 : w.heap.size ≤ (w1.alloc (.cells #[.string (tx T)] 9)).heap.size := HF2.out.size
          have HT := Lib.hid hT
          clear ho hf1 hf2 hrow hF c0 HFI hT
          go_wp2_with (at_builtin; go_must (refine wpList_append_own_at _ rfl (.tmp 70) (.tmp 73) 47 rfl w.heap.size 9 s0 (.string ⟨#[]⟩) 1 16 Tryd.underlying47 hs0 sz0 sz1 sz2 rfl (by decide) u7 (1 + k2) (strs ([wd] ++ (nums.take k2).map Lib.itoa)) rfl HO.out ⟨w1.heap.size, 0, none⟩ 1 1 [.string (tx T)] rfl rfl HNw.out (by simp [Value.oneCell']) (by unfold maxLen; omega) (by omega) hb04 ?_); intro v7 w7 hown7 hg7 hn7 hat7)
          have HO7 : Hid (w7.ownsRow w.heap.size 9 1 v7 (1 + (k2 + 1)) (strs ([wd] ++ (nums.take (k2 + 1)).map Lib.itoa))) := by
            rw [HTk.out, List.map_append, ← List.append_assoc, strs_append, show 1 + (k2 + 1) = 1 + k2 + 1 by omega, ← HT.out] at *; exact hown7
          have HR7 := Lib.hid (HRw.out.grown HO.out hg7)
          have HF7 : Hid (Fr Nob w w7) := Fr.grown HF2.out hg7 (fun r hr => .inl (HO.out.lt r hr).1)
          clear hown7 hg7 hn7 hat7
          go_wp2
          go_roundw
          case rel => first | exact ⟨k2 + 1, by omega, by go_num, HO7, HR7, HF7⟩ | exact ⟨_, _, _, ⟨k2 + 1, by omega, rfl, HO7, HR7, HF7⟩, rfl, rfl, by simp⟩
          case measure => simp [intOf]; omega
        · obtain rfl : k2 = K := by omega
          have hall : nums.take k2 = nums := List.take_of_length_le (by rw [HKl.out]; exact Nat.le_refl _)
          rw [hall] at ho
          obtain ⟨Bo, co', rfl, hnc, hI, _⟩ := strIn_row ho.out (by simp [HKl.out]; omega)
          have hlj := ln_length wd nums HIn.out
          have HJ := Lib.hid (Join_any Bo co' (1 + k2) ([wd] ++ nums.map Lib.itoa) wr hI (by simp [HKl.out]; omega) (by omega) hnc (by rw [List.singleton_append, ln_join]; have := HKl.out; omega) (by omega))
          have hjl : Lib.join ([wd] ++ nums.map Lib.itoa) [32] = ln wd nums := ln_join wd nums
          rw [hjl, HR.out] at HJ
          clear hall ho hI hlj hjl hrow
          go_wp2_with fail
          refine HJ.out.mono ?_
          rintro e w9 ⟨rfl, hf9⟩
          have HF9 := Lib.hid (hF.out.trans hf9)
          clear hf9
          go_wp2
          go_ret
          exact ⟨rfl, HF9.out⟩

set_option maxHeartbeats 3200000 in
set_option maxRecDepth 100000 in
theorem words_k0 (x : Shp) (c : Cm) (v : Value) (w : World) (he : Env w) (hc : CmIn w c v) (hok : c.Ok) (hkk : x.kind ≠ 1) (hn : x.n ≤ 1) (hp : x.p ≤ 2) (hw : x.word.length ≤ 100) :
    Calls Tryd.prog 20 #[x.v, v] w fun e w' => e = .returned (.string (tx (ln x.word (numsT x c)))) ∧ Fr Nob w w' := by
  obtain ⟨i0, hi0, hz0, hz1, hz2⟩ := info_parts' info_i64'
  obtain ⟨s0, hs0, sz0, sz1, sz2⟩ := info_parts' info_str'
  have qL := len_strs
  have qI := len_i64s
  have qP2 : ∀ (w : World) (A : Option Addr) (c : Nat), (Builtin.len_ #[26] 3 #[Value.slice A 2 c]).run Tryd.prog w = .ok (.int .i64 2) w := fun w A c => len_Ps w A 2 c
  have qPx : ∀ (w : World) (A : Option Addr) (c : Nat), (Builtin.len_ #[26] 3 #[Value.slice A x.p c]).run Tryd.prog w = .ok (.int .i64 x.p) w := fun w A c => len_Ps w A x.p c
  have HEn := Lib.hid he
  obtain ⟨wd, kd, op, fr, xn, xp⟩ := x
  dsimp only at hkk hn hp hw qPx
  have k3 : (xp : Int) < 3 := by omega
  have hkb : (kd == 1) = false := by simpa using hkk
  obtain ⟨B, m, rfl, hm, hpt⟩ := hc
  obtain ⟨ck, co, ca, cb, cf, cl, ⟨p1, p2⟩, ⟨q1, q2⟩, cn⟩ := c
  have hA : Hid (numsT ⟨wd, kd, op, fr, xn, xp⟩ ⟨ck, co, ca, cb, cf, cl, (p1, p2), (q1, q2), cn⟩ = [cn].take xn ++ flat ([(p1, p2), (q1, q2)].take xp)) := by show numsT _ _ = _; unfold numsT; dsimp only; rw [if_neg hkk, if_neg hkk]
  have HIn : Hid (∀ n ∈ [cn].take xn ++ flat ([(p1, p2), (q1, q2)].take xp), I64 n) := by
    intro n hn
    rcases List.mem_append.1 hn with h | h
    · have := List.mem_of_mem_take h
      simp only [List.mem_cons, List.not_mem_nil, or_false] at this
      subst this
      exact hok.n
    · refine flat_in (fun z hz => ?_) n h
      have := List.mem_of_mem_take hz
      simp only [List.mem_cons, List.not_mem_nil, or_false] at this
      rcases this with rfl | rfl
      · exact hok.p
      · exact hok.q
  rw [hA.out]
  obtain ⟨A0, hA0⟩ : ∃ A0, [cn].take xn = A0 := ⟨_, rfl⟩
  have hA0l : A0.length = xn := by rw [← hA0]; simp; omega
  have hM : ([(p1, p2), (q1, q2)].take xp).length = xp := by simp; omega
  have hNm : (A0 ++ flat ([(p1, p2), (q1, q2)].take xp)).length = xn + 2 * xp := by rw [List.length_append, hA0l, flat_length, hM]
  have HPt : Hid (∀ wr, Blk wr (w.heap.size + 1 + 1 + 1) 30 #[.int .i64 p1, .int .i64 p2, .int .i64 q1, .int .i64 q2] → PtsIn wr (some ⟨w.heap.size + 1 + 1 + 1, 0, none⟩) ([(p1, p2), (q1, q2)].take xp)) := by
    intro wr hb _
    refine ⟨_, _, rfl, fun j p hj => ?_⟩
    have hj2 : [(p1, p2), (q1, q2)][j]? = some p := by
      rw [List.getElem?_take] at hj
      split at hj
      · exact hj
      · cases hj
    match j, hj2 with
    | 0, h => injection h with h; subst h; exact ⟨hb.cell 0, hb.cell 1⟩
    | 1, h => injection h with h; subst h; exact ⟨hb.cell 2, hb.cell 3⟩
    | (j + 2), h => simp at h
  have HNm := Lib.hid hNm
  rw [hA0] at HIn ⊢
  unfold Shp.v Cm.v
  dsimp only at hm hpt ⊢
  obtain ⟨N, hN⟩ : ∃ N, cl.length = N := ⟨_, rfl⟩
  rw [hN] at hm ⊢
  obtain ⟨pts, hpts⟩ : ∃ pts, [(p1, p2), (q1, q2)].take xp = pts := ⟨_, rfl⟩
  rw [hpts] at hM HNm HPt HIn ⊢
  have HM := Lib.hid hM
  obtain ⟨R, hR⟩ : ∃ R, tx (ln wd (A0 ++ flat pts)) = R := ⟨_, rfl⟩
  have HR := Lib.hid hR
  rw [hR]
  have HA0 := Lib.hid hA0
  have HA0l := Lib.hid hA0l
  clear hR hok hpt he hA hA0 hA0l hNm hpts hN hM
  have HFw : Hid (Fr Nob w (((((w.alloc (.cells #[.string (tx wd), .int .i64 kd, .int .i64 op, .bool fr, .int .i64 xn, .int .i64 xp] 54)).alloc (.cells #[.int .i64 ck, .int .i64 co, .int .i64 ca, .int .i64 cb, .bool cf, .slice B N m, .int .i64 p1, .int .i64 p2, .int .i64 q1, .int .i64 q2, .int .i64 cn] 32)).alloc (.cells #[.int .i64 cn] 2)).alloc (.cells #[.int .i64 p1, .int .i64 p2, .int .i64 q1, .int .i64 q2] 30)).alloc (.cells #[.string (tx wd)] 9))) := ((((((Fr.refl _ _).alloc _).alloc _).alloc _).alloc _).alloc _)
  have HGo : Hid (Blk (((((w.alloc (.cells #[.string (tx wd), .int .i64 kd, .int .i64 op, .bool fr, .int .i64 xn, .int .i64 xp] 54)).alloc (.cells #[.int .i64 ck, .int .i64 co, .int .i64 ca, .int .i64 cb, .bool cf, .slice B N m, .int .i64 p1, .int .i64 p2, .int .i64 q1, .int .i64 q2, .int .i64 cn] 32)).alloc (.cells #[.int .i64 cn] 2)).alloc (.cells #[.int .i64 p1, .int .i64 p2, .int .i64 q1, .int .i64 q2] 30)).alloc (.cells #[.string (tx wd)] 9)) (w.heap.size + 1 + 1 + 1 + 1) 9 #[.string (tx wd)]) := by
    have := Blk.new ((((w.alloc (.cells #[.string (tx wd), .int .i64 kd, .int .i64 op, .bool fr, .int .i64 xn, .int .i64 xp] 54)).alloc (.cells #[.int .i64 ck, .int .i64 co, .int .i64 ca, .int .i64 cb, .bool cf, .slice B N m, .int .i64 p1, .int .i64 p2, .int .i64 q1, .int .i64 q2, .int .i64 cn] 32)).alloc (.cells #[.int .i64 cn] 2)).alloc (.cells #[.int .i64 p1, .int .i64 p2, .int .i64 q1, .int .i64 q2] 30)) 9 #[.string (tx wd)]
    simp only [World.size_alloc] at this
    exact this
  have HGl : Hid (Blk (((((w.alloc (.cells #[.string (tx wd), .int .i64 kd, .int .i64 op, .bool fr, .int .i64 xn, .int .i64 xp] 54)).alloc (.cells #[.int .i64 ck, .int .i64 co, .int .i64 ca, .int .i64 cb, .bool cf, .slice B N m, .int .i64 p1, .int .i64 p2, .int .i64 q1, .int .i64 q2, .int .i64 cn] 32)).alloc (.cells #[.int .i64 cn] 2)).alloc (.cells #[.int .i64 p1, .int .i64 p2, .int .i64 q1, .int .i64 q2] 30)).alloc (.cells #[.string (tx wd)] 9)) (w.heap.size + 1 + 1) 2 #[.int .i64 cn]) := by
    have := Blk.new ((w.alloc (.cells #[.string (tx wd), .int .i64 kd, .int .i64 op, .bool fr, .int .i64 xn, .int .i64 xp] 54)).alloc (.cells #[.int .i64 ck, .int .i64 co, .int .i64 ca, .int .i64 cb, .bool cf, .slice B N m, .int .i64 p1, .int .i64 p2, .int .i64 q1, .int .i64 q2, .int .i64 cn] 32)) 2 #[.int .i64 cn]
    simp only [World.size_alloc] at this
    exact ((this.alloc _).alloc _)
  have HOwn : Hid ((((((w.alloc (.cells #[.string (tx wd), .int .i64 kd, .int .i64 op, .bool fr, .int .i64 xn, .int .i64 xp] 54)).alloc (.cells #[.int .i64 ck, .int .i64 co, .int .i64 ca, .int .i64 cb, .bool cf, .slice B N m, .int .i64 p1, .int .i64 p2, .int .i64 q1, .int .i64 q2, .int .i64 cn] 32)).alloc (.cells #[.int .i64 cn] 2)).alloc (.cells #[.int .i64 p1, .int .i64 p2, .int .i64 q1, .int .i64 q2] 30)).alloc (.cells #[.string (tx wd)] 9)).ownsRow w.heap.size 2 1 (.slice (some ⟨w.heap.size + 1 + 1, 0, none⟩) xn 1) (xn + 2 * 0) (ints (A0 ++ flat (pts.take 0)))) := by
    have := own_of_blk (cs := [.int .i64 cn]) HGl.out (base := w.heap.size) (n := xn) (by omega) (by simp; omega) (by simp)
    rw [show ints (A0 ++ flat (pts.take 0)) = [.int .i64 cn].take xn by rw [← HA0.out]; simp [ints, flat], Nat.mul_zero, Nat.add_zero]
    exact this
  have HPQ : Hid (Blk (((((w.alloc (.cells #[.string (tx wd), .int .i64 kd, .int .i64 op, .bool fr, .int .i64 xn, .int .i64 xp] 54)).alloc (.cells #[.int .i64 ck, .int .i64 co, .int .i64 ca, .int .i64 cb, .bool cf, .slice B N m, .int .i64 p1, .int .i64 p2, .int .i64 q1, .int .i64 q2, .int .i64 cn] 32)).alloc (.cells #[.int .i64 cn] 2)).alloc (.cells #[.int .i64 p1, .int .i64 p2, .int .i64 q1, .int .i64 q2] 30)).alloc (.cells #[.string (tx wd)] 9)) (w.heap.size + 1 + 1 + 1) 30 #[.int .i64 p1, .int .i64 p2, .int .i64 q1, .int .i64 q2]) := by
    have := Blk.new (((w.alloc (.cells #[.string (tx wd), .int .i64 kd, .int .i64 op, .bool fr, .int .i64 xn, .int .i64 xp] 54)).alloc (.cells #[.int .i64 ck, .int .i64 co, .int .i64 ca, .int .i64 cb, .bool cf, .slice B N m, .int .i64 p1, .int .i64 p2, .int .i64 q1, .int .i64 q2, .int .i64 cn] 32)).alloc (.cells #[.int .i64 cn] 2)) 30 #[.int .i64 p1, .int .i64 p2, .int .i64 q1, .int .i64 q2]
    simp only [World.size_alloc] at this
    exact (this.alloc _)
  have hmin : min (xp : Int) 2 = (xp : Int) := by omega
  go_enter Tryd.func20, Tryd.ntmps20
  go_wp2
  clear hkk
  go_loopw [5, 52] (fun v i wr => ∃ k : Nat, k ≤ xp ∧ i = .int .i64 k ∧ Hid (wr.ownsRow w.heap.size 2 1 v (xn + 2 * k) (ints (A0 ++ flat (pts.take k)))) ∧ Hid (Blk wr (w.heap.size + 1 + 1 + 1 + 1) 9 #[.string (tx wd)]) ∧ Hid (Fr Nob w wr) ∧ Hid (Blk wr (w.heap.size + 1 + 1 + 1) 30 #[.int .i64 p1, .int .i64 p2, .int .i64 q1, .int .i64 q2])) (fun _ i _ => xp - (intOf i).toNat)
  case atStart => exact ⟨0, Nat.zero_le _, rfl, HOwn.out, HGo.out, HFw.out, HPQ.out⟩
  case round =>
    obtain ⟨k, hk, rfl, ho, hB, hF, hx⟩ := hrel
    by_cases hlt : k < xp
    · have hkl : k < pts.length := by rw [HM.out]; exact hlt
      obtain ⟨g, o, e, hcc⟩ := HPt.out wr hx.out (by omega)
      injection e with e
      injection e with e1 e2
      subst e1 e2
      obtain ⟨c0, c1⟩ := hcc k _ (List.getElem?_eq_getElem hkl)
      rw [Nat.zero_add] at c0 c1
      have hgw := hx.out.lt
      have htk : pts.take (k + 1) = pts.take k ++ [pts[k]] := (List.take_append_getElem hkl).symm
      obtain ⟨z, hz⟩ : ∃ z, pts[k] = z := ⟨_, rfl⟩
      rw [hz] at c0 c1 htk
      have HTk := Lib.hid htk
      obtain ⟨x1, x2⟩ := z
      dsimp only at c0 c1
      clear htk hz hcc
      have hF2 : Fr Nob wr ((wr.alloc (.cells #[.int .i64 x1, .int .i64 x2] 30)).alloc (.cells #[.int .i64 x1, .int .i64 x2] 2)) := ((Fr.refl _ _).alloc _).alloc _
      have HO : Hid (((wr.alloc (.cells #[.int .i64 x1, .int .i64 x2] 30)).alloc (.cells #[.int .i64 x1, .int .i64 x2] 2)).ownsRow w.heap.size 2 1 u5 (xn + 2 * k) (ints (A0 ++ flat (pts.take k)))) := own_fr ho.out hF2 (fun _ _ h => h)
      have hnw := cells_new (wr.alloc (.cells #[.int .i64 x1, .int .i64 x2] 30)) [.int .i64 x1, .int .i64 x2] 2
      rw [World.size_alloc] at hnw
      have HNw := Lib.hid hnw
      clear hnw
      have HB2 := Lib.hid (hB.out.fr hF2 (fun h => h))
      have hb04 : w.heap.size ≤ ((wr.alloc (.cells #[.int .i64 x1, .int .i64 x2] 30)).alloc (.cells #[.int .i64 x1, .int .i64 x2] 2)).heap.size := Nat.le_trans hF.out.size hF2.size
      have HX2 := Lib.hid (hx.out.fr hF2 (fun h => h))
      have HF2 := Lib.hid (hF.out.trans hF2)
      obtain ⟨K, hK⟩ : ∃ K, xn + 2 * k = K := ⟨_, rfl⟩
      have HK := Lib.hid hK
      have hKb : K ≤ 200 := by omega
      rw [hK] at HO
      clear ho hF2 hF hB hK
      go_wp2_with (at_builtin; go_must (refine wpList_append_own_at _ rfl (.tmp 56) (.tmp 61) 55 rfl w.heap.size 2 i0 (.int .i64 0) 1 8 Tryd.underlying55 hi0 hz0 hz1 hz2 rfl (by decide) u5 K (ints (A0 ++ flat (pts.take k))) rfl HO.out ⟨wr.heap.size + 1, 0, none⟩ 2 2 [.int .i64 x1, .int .i64 x2] rfl rfl HNw.out (by simp [Value.oneCell']) (by unfold maxLen; omega) (by omega) hb04 ?_); intro v7 w7 hown7 hg7 hn7 hat7)
      have HO7 : Hid (w7.ownsRow w.heap.size 2 1 v7 (xn + 2 * (k + 1)) (ints (A0 ++ flat (pts.take (k + 1))))) := by
        rw [HTk.out, flat_snoc, ← List.append_assoc, ints_append, show xn + 2 * (k + 1) = K + 2 by have := HK.out; omega]; exact hown7
      have HB7 : Hid (Blk w7 (w.heap.size + 1 + 1 + 1 + 1) 9 #[.string (tx wd)]) := HB2.out.grown hg7 (Blk.own_ne HB2.out HO.out (by decide))
      have HF7 : Hid (Fr Nob w w7) := Fr.grown HF2.out hg7 (fun r hr => .inl (HO.out.lt r hr).1)
      have HX7 : Hid (Blk w7 (w.heap.size + 1 + 1 + 1) 30 #[.int .i64 p1, .int .i64 p2, .int .i64 q1, .int .i64 q2]) := HX2.out.grown hg7 (Blk.own_ne HX2.out HO.out (by decide))
      clear hown7 hg7 hn7 hat7
      go_wp2
      go_roundw
      case rel => first | exact ⟨k + 1, by omega, by go_num, HO7, HB7, HF7, HX7⟩ | exact ⟨_, _, _, ⟨k + 1, by omega, rfl, HO7, HB7, HF7, HX7⟩, rfl, rfl, by simp⟩
      case measure => simp [intOf]; omega
    · obtain rfl : k = xp := by omega
      have hall : pts.take k = pts := List.take_of_length_le (by rw [HM.out]; exact Nat.le_refl _)
      rw [hall] at ho
      obtain ⟨A, ca', rfl, hAn, hrow⟩ := numRow_of ho.out
      have HRow := Lib.hid hrow
      have HFr := Lib.hid hF.out
      have HOw2 : Hid (wr.ownsRow w.heap.size 9 1 (.slice (some ⟨w.heap.size + 1 + 1 + 1 + 1, 0, none⟩) 1 1) 1 (strs ([wd] ++ ((A0 ++ flat pts).take 0).map Lib.itoa))) := own_of_blk (cs := [.string (tx wd)]) hB.out (by omega) (Nat.le_refl 1) (by simp)
      obtain ⟨nums, hnums⟩ : ∃ nums, A0 ++ flat pts = nums := ⟨_, rfl⟩
      rw [hnums] at HRow HOw2 HIn HR
      obtain ⟨K, hK⟩ : ∃ K, xn + 2 * k = K := ⟨_, rfl⟩
      have hKb : K ≤ 200 := by omega
      have HKl : Hid (nums.length = K) := by show _ = _; rw [← hnums, HNm.out, hK]
      rw [hK]
      clear hall ho hB hF hrow hnums hK hAn hx
      go_wp2
      go_loopw [7, 66] (fun v i wr => ∃ k : Nat, k ≤ K ∧ i = .int .i64 k ∧ Hid (wr.ownsRow w.heap.size 9 1 v (1 + k) (strs ([wd] ++ (nums.take k).map Lib.itoa))) ∧ Hid (NumRow wr A nums) ∧ Hid (Fr Nob w wr)) (fun _ i _ => K - (intOf i).toNat)
      case atStart => exact ⟨0, Nat.zero_le _, rfl, HOw2.out, HRow.out, HFr.out⟩
      case round =>
        obtain ⟨k2, hk2, rfl, ho, hrow, hF⟩ := hrel
        by_cases hlt2 : k2 < K
        · have hkl : k2 < nums.length := by rw [HKl.out]; exact hlt2
          obtain ⟨g, cur, rfl, hgb, hcur⟩ := hrow.out (by omega)
          have c0 := (hgb.cell k2).trans (hcur k2 _ (List.getElem?_eq_getElem hkl))
          have hgw := hgb.lt
          have htk : nums.take (k2 + 1) = nums.take k2 ++ [nums[k2]] := (List.take_append_getElem hkl).symm
          have hi64 := HIn.out _ (List.getElem_mem hkl)
          obtain ⟨z, hz⟩ : ∃ z, nums[k2] = z := ⟨_, rfl⟩
          rw [hz] at c0 htk hi64
          have HTk := Lib.hid htk
          have HFI := Lib.hid (FormatInt_any z hi64.1 hi64.2 wr (HEn.out.new hF.out))
          clear htk hz hgb hcur hi64
          go_wp2_with fail
          refine HFI.out.mono ?_
          rintro e w1 ⟨rfl, hf1⟩
          obtain ⟨T, hT⟩ : ∃ T, Lib.itoa z = T := ⟨_, rfl⟩
          rw [hT]
          have hf2 : Fr Nob wr (w1.alloc (.cells #[.string (tx T)] 9)) := hf1.alloc _
          have HO : Hid ((w1.alloc (.cells #[.string (tx T)] 9)).ownsRow w.heap.size 9 1 u7 (1 + k2) (strs ([wd] ++ (nums.take k2).map Lib.itoa))) := own_fr ho.out hf2 (fun _ _ h => h)
          have HNw := Lib.hid (cell_one_new w1 (.string (tx T)) 9)
          have HRw := Lib.hid (hrow.out.fr hf2)
          have HF2 := Lib.hid (hF.out.trans hf2)
          have hb04 : w.heap.size ≤ (w1.alloc (.cells #[.string (tx T)] 9)).heap.size := HF2.out.size
          have HT := Lib.hid hT
          clear ho hf1 hf2 hrow hF c0 HFI hT
          go_wp2_with (at_builtin; go_must (refine wpList_append_own_at _ rfl (.tmp 70) (.tmp 73) 47 rfl w.heap.size 9 s0 (.string ⟨#[]⟩) 1 16 Tryd.underlying47 hs0 sz0 sz1 sz2 rfl (by decide) u7 (1 + k2) (strs ([wd] ++ (nums.take k2).map Lib.itoa)) rfl HO.out ⟨w1.heap.size, 0, none⟩ 1 1 [.string (tx T)] rfl rfl HNw.out (by simp [Value.oneCell']) (by unfold maxLen; omega) (by omega) hb04 ?_); intro v7 w7 hown7 hg7 hn7 hat7)
          have HO7 : Hid (w7.ownsRow w.heap.size 9 1 v7 (1 + (k2 + 1)) (strs ([wd] ++ (nums.take (k2 + 1)).map Lib.itoa))) := by
            rw [HTk.out, List.map_append, ← List.append_assoc, strs_append, show 1 + (k2 + 1) = 1 + k2 + 1 by omega, ← HT.out] at *; exact hown7
          have HR7 := Lib.hid (HRw.out.grown HO.out hg7)
          have HF7 : Hid (Fr Nob w w7) := Fr.grown HF2.out hg7 (fun r hr => .inl (HO.out.lt r hr).1)
          clear hown7 hg7 hn7 hat7
          go_wp2
          go_roundw
          case rel => first | exact ⟨k2 + 1, by omega, by go_num, HO7, HR7, HF7⟩ | exact ⟨_, _, _, ⟨k2 + 1, by omega, rfl, HO7, HR7, HF7⟩, rfl, rfl, by simp⟩
          case measure => simp [intOf]; omega
        · obtain rfl : k2 = K := by omega
          have hall : nums.take k2 = nums := List.take_of_length_le (by rw [HKl.out]; exact Nat.le_refl _)
          rw [hall] at ho
          obtain ⟨Bo, co', rfl, hnc, hI, _⟩ := strIn_row ho.out (by simp [HKl.out]; omega)
          have hlj := ln_length wd nums HIn.out
          have HJ := Lib.hid (Join_any Bo co' (1 + k2) ([wd] ++ nums.map Lib.itoa) wr hI (by simp [HKl.out]; omega) (by omega) hnc (by rw [List.singleton_append, ln_join]; have := HKl.out; omega) (by omega))
          have hjl : Lib.join ([wd] ++ nums.map Lib.itoa) [32] = ln wd nums := ln_join wd nums
          rw [hjl, HR.out] at HJ
          clear hall ho hI hlj hjl hrow
          go_wp2_with fail
          refine HJ.out.mono ?_
          rintro e w9 ⟨rfl, hf9⟩
          have HF9 := Lib.hid (hF.out.trans hf9)
          clear hf9
          go_wp2
          go_ret
          exact ⟨rfl, HF9.out⟩
end Go.Proofs.YtidohbhcjnmmeaaDoor
