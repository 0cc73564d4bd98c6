/-
  Commands: Text.
-/
import Derived.Test.YtidohbhcjnmmeaaDoorCmd9
import Derived.Test.YtidohbhcjnmmeaaDoorCmd6
namespace Go.Proofs.YtidohbhcjnmmeaaDoor
set_option linter.unusedSimpArgs false
set_option linter.unusedVariables false
open Go.RowKit Go.Shelf
attribute [local go_sem] Oper.semAt_some

theorem tbl_kinds : ∀ x ∈ tbl, ((x.kind = 1 ∧ x.n ≤ 2 ∧ x.p = 3) ∨ (x.kind = 1 ∧ x.n ≤ 2 ∧ x.p < 3) ∨ (x.kind ≠ 1 ∧ x.n ≤ 1 ∧ x.p ≤ 2)) ∧ x.word.length ≤ 100 := by decide
theorem words_any (x : Shp) (hx : x ∈ tbl) (c : Cm) (v : Value) (w : World) (he : Env w) (hc : CmIn w c v) (hok : c.Ok) (hl : c.line.length ≤ 64) :
    Calls Tryd.prog 20 #[x.v, v] w fun e w' => e = .returned (.string (tx (ln x.word (numsT x c)))) ∧ Fr Nob w w' := by
  obtain ⟨⟨h1, h2, h3⟩ | ⟨h1, h2, h3⟩ | ⟨h1, h2, h3⟩, h4⟩ := tbl_kinds x hx
  · exact words_p3 x c v w he hc hok hl h1 h2 h3 h4
  · exact words_p2 x c v w he hc hok hl h1 h2 h3 h4
  · exact words_k0 x c v w he hc hok h1 h2 h3 h4
theorem numsT_ok {x : Shp} {c : Cm} (h : c.Ok) : ∀ n ∈ numsT x c, I64 n := by
  intro n hn
  unfold numsT at hn
  rcases List.mem_append.1 hn with hn | hn
  · have := List.mem_of_mem_take hn
    split at this
    · simp only [List.mem_cons, List.not_mem_nil, or_false] at this
      rcases this with rfl | rfl
      · exact h.a
      · exact h.b
    · simp only [List.mem_cons, List.not_mem_nil, or_false] at this
      subst this
      exact h.n
  · refine flat_in (fun z hz => ?_) n hn
    split at hz
    · split at hz
      · exact h.line z (List.mem_of_mem_take hz)
      · exact h.line z hz
    · have := List.mem_of_mem_take hz
      simp only [List.mem_cons, List.not_mem_nil, or_false] at this
      rcases this with rfl | rfl
      · exact h.p
      · exact h.q
theorem numsT_length (x : Shp) (c : Cm) (hl : c.line.length ≤ 64) (hx : x ∈ tbl) : (numsT x c).length ≤ 134 := by
  unfold numsT
  rw [List.length_append, flat_length]
  have h1 : ((if x.kind = 1 then [c.a, c.b] else [c.n]).take x.n).length ≤ 2 := by rw [List.length_take]; split <;> simp <;> omega
  have h2 : (if x.kind = 1 then (if x.p < 3 then c.line.take x.p else c.line) else [c.p, c.q].take x.p).length ≤ 64 := by
    split
    · split
      · rw [List.length_take]; omega
      · exact hl
    · rw [List.length_take]; simp; omega
  omega
theorem parseC_line (l : List UInt8) : (parseC l).1.line.length ≤ 1000000 := by
  unfold parseC
  split
  · exact Nat.zero_le _
  · split
    · exact Nat.zero_le _
    · rename_i x hx
      have hb := tbl_bounds x (List.mem_of_find?_eq_some hx)
      split
      · exact Nat.zero_le _
      · rename_i ns _
        by_cases hf : x.fits ns.length = true
        · rw [if_pos hf]
          unfold Shp.made
          split
          · dsimp only
            rw [prs_length, List.length_drop]
            unfold Shp.fits at hf
            split at hf
            · have := of_decide_eq_true hf; omega
            · have := of_decide_eq_true hf; omega
          · exact Nat.zero_le _
        · rw [if_neg hf]; exact Nat.zero_le _
/-- A shape that gives the command's line. -/
def goodT (c : Cm) (x : Shp) : Bool := decide (x.kind = c.kind ∧ x.op = c.op ∧ x.fresh = c.fresh ∧ c.line.length ≤ 64 ∧ parseC (ln x.word (numsT x c)) = (c, 0))
/-- None of the shapes so far gives the line. -/
def NoGood (c : Cm) (pre : List ShT) : Prop := ∀ x ∈ pre, goodT c x.1 = false
theorem NoGood.snoc {c : Cm} {pre : List ShT} {x : Shp} {hx : x ∈ tbl} (h : NoGood c pre) (hn : goodT c x = false) : NoGood c (pre ++ [⟨x, hx⟩]) := fun y hy => by
  rcases List.mem_append.1 hy with h' | h'
  · exact h y h'
  · rw [List.mem_singleton.1 h']; exact hn
def textC (c : Cm) : Option (List UInt8) := (tbl.find? (goodT c)).map fun x => ln x.word (numsT x c)

/-- Text's answer. -/
def TextRes (T : Option (List UInt8)) (w : World) (e : Ending) (w' : World) : Prop := e = .returned (.tuple #[.string (tx (T.getD [])), .int .i64 (if T.isSome then 0 else 1)]) ∧ Fr Nob w w'
theorem text_results {fn : Func} {p q : Tmp} (h : fn.results = #[.cell p 9, .cell q 33]) (tmps : Array Value) (w : World) (g k : Nat) (t1 t2 : TypeId) (s : ByteArray) (n : Int)
    (hp : tmps.getD p undef = .pointer (some ⟨g, 0, none⟩)) (hq : tmps.getD q undef = .pointer (some ⟨k, 0, none⟩)) (hg : Blk w g t1 #[.string s]) (hk : Blk w k t2 #[.int .i64 n]) :
    (results fn tmps).run Tryd.prog w = .ok (.tuple #[.string s, .int .i64 n]) w := by
  have c0 := hk.cell 0
  have d0 := hg.cell 0
  simp only [List.getElem?_toArray, List.getElem?_cons_zero] at c0 d0
  rw [results_cc h, hp, hq]
  simp [go_sem, c0, d0]

def textAct (B Bs Bx : Nat) (cv xv : Value) : Act :=
  { tmps := #[cv, .pointer (some ⟨B, 0, none⟩), .pointer (some ⟨B + 1, 0, none⟩), .pointer (some ⟨B + 1 + 1, 0, none⟩), .pointer (some ⟨Bx, 0, none⟩), undef, undef, undef, .func (.func 39) #[] #[.pointer (some ⟨Bs, 0, none⟩)], xv, undef, undef, undef, undef, undef, undef, undef, undef, undef, undef, undef, undef, undef, undef, undef, undef, undef, undef, undef, undef, undef, undef, undef, undef, undef, undef, undef, undef, undef, undef, undef, undef, undef, undef, undef, undef, undef, undef, undef, undef, undef, undef, undef, undef], defers := [] }

set_option maxHeartbeats 6400000 in
set_option maxRecDepth 100000 in
theorem Text_any (c : Cm) (v : Value) (w : World) (he : Env w) (hc : CmIn w c v) (hok : c.Ok) (hlen : c.line.length ≤ 1000000) :
    Calls Tryd.prog 10 #[v] w fun e w' => TextRes (textC c) w e w' := by
  have qP := len_Ps
  have HEn := Lib.hid he
  have HOk := Lib.hid hok
  obtain ⟨A, m, rfl, hm, hpt⟩ := hc
  obtain ⟨T, hT⟩ : ∃ T, textC c = T := ⟨_, rfl⟩
  have HT := Lib.hid hT
  rw [hT]
  have HGd : Hid (∀ x, goodT c x = decide (x.kind = c.kind ∧ x.op = c.op ∧ x.fresh = c.fresh ∧ c.line.length ≤ 64 ∧ parseC (ln x.word (numsT x c)) = (c, 0))) := fun x => rfl
  obtain ⟨C, hC⟩ : ∃ C, c = C := ⟨_, rfl⟩
  rw [hC] at HOk hm hpt HT HGd ⊢
  have hlen' : C.line.length ≤ 1000000 := hC ▸ hlen
  clear hC hT he hok hlen c
  have HPt := Lib.hid hpt
  obtain ⟨ck, co, ca, cb, cf, cl, ⟨p1, p2⟩, ⟨q1, q2⟩, cn⟩ := C
  unfold Cm.v
  dsimp only at hm hpt HPt hlen' ⊢
  have HGd : Hid (∀ x, goodT ⟨ck, co, ca, cb, cf, cl, (p1, p2), (q1, q2), cn⟩ x = decide (x.kind = ck ∧ x.op = co ∧ x.fresh = cf ∧ cl.length ≤ 64 ∧ parseC (ln x.word (numsT x ⟨ck, co, ca, cb, cf, cl, (p1, p2), (q1, q2), cn⟩)) = (⟨ck, co, ca, cb, cf, cl, (p1, p2), (q1, q2), cn⟩, 0))) := HGd
  obtain ⟨M, hM⟩ : ∃ M, cl.length = M := ⟨_, rfl⟩
  have HM := Lib.hid hM
  rw [hM] at hm hlen' ⊢
  clear hM hpt
  obtain ⟨B, hB⟩ : ∃ B, w.heap.size = B := ⟨_, rfl⟩
  have HB := Lib.hid hB
  have hf2 : Fr Nob w (((w.alloc (.cells #[.int .i64 ck, .int .i64 co, .int .i64 ca, .int .i64 cb, .bool cf, .slice A M m, .int .i64 p1, .int .i64 p2, .int .i64 q1, .int .i64 q2, .int .i64 cn] 32)).alloc (.cells #[.string ⟨#[]⟩] 9)).alloc (.cells #[.int .i64 0] 33)) := (((Fr.refl Nob w).alloc _).alloc _).alloc _
  have hb1 : Blk (((w.alloc (.cells #[.int .i64 ck, .int .i64 co, .int .i64 ca, .int .i64 cb, .bool cf, .slice A M m, .int .i64 p1, .int .i64 p2, .int .i64 q1, .int .i64 q2, .int .i64 cn] 32)).alloc (.cells #[.string ⟨#[]⟩] 9)).alloc (.cells #[.int .i64 0] 33)) B 32 #[.int .i64 ck, .int .i64 co, .int .i64 ca, .int .i64 cb, .bool cf, .slice A M m, .int .i64 p1, .int .i64 p2, .int .i64 q1, .int .i64 q2, .int .i64 cn] := by rw [← hB]; exact ((Blk.new w _ _).alloc _).alloc _
  have hb2 : Blk (((w.alloc (.cells #[.int .i64 ck, .int .i64 co, .int .i64 ca, .int .i64 cb, .bool cf, .slice A M m, .int .i64 p1, .int .i64 p2, .int .i64 q1, .int .i64 q2, .int .i64 cn] 32)).alloc (.cells #[.string ⟨#[]⟩] 9)).alloc (.cells #[.int .i64 0] 33)) (B + 1) 9 #[.string ⟨#[]⟩] := by
    rw [← hB]
    have := Blk.new (w.alloc (.cells #[.int .i64 ck, .int .i64 co, .int .i64 ca, .int .i64 cb, .bool cf, .slice A M m, .int .i64 p1, .int .i64 p2, .int .i64 q1, .int .i64 q2, .int .i64 cn] 32)) 9 #[.string ⟨#[]⟩]
    rw [World.size_alloc] at this
    exact this.alloc _
  have hb3 : Blk (((w.alloc (.cells #[.int .i64 ck, .int .i64 co, .int .i64 ca, .int .i64 cb, .bool cf, .slice A M m, .int .i64 p1, .int .i64 p2, .int .i64 q1, .int .i64 q2, .int .i64 cn] 32)).alloc (.cells #[.string ⟨#[]⟩] 9)).alloc (.cells #[.int .i64 0] 33)) (B + 1 + 1) 33 #[.int .i64 0] := by
    rw [← hB]
    have := Blk.new ((w.alloc (.cells #[.int .i64 ck, .int .i64 co, .int .i64 ca, .int .i64 cb, .bool cf, .slice A M m, .int .i64 p1, .int .i64 p2, .int .i64 q1, .int .i64 q2, .int .i64 cn] 32)).alloc (.cells #[.string ⟨#[]⟩] 9)) 33 #[.int .i64 0]
    rwa [World.size_alloc, World.size_alloc] at this
  have HF2 := Lib.hid hf2
  have HB1 := Lib.hid hb1
  have HB2 := Lib.hid hb2
  have HB3 := Lib.hid hb3
  clear hf2 hb1 hb2 hb3 hB
  refine (callsIn_wide (n := 6)).1 ?_
  refine callsIn_of_wp_marks Tryd.func10 rfl trivial ?_ rfl
  simp only [Tryd.ntmps10, List.size_toArray, List.length_cons, List.length_nil, Nat.reduceAdd, Nat.reduceSub, Array.replicate_succ, Array.replicate_zero, List.push_toArray, List.append_toArray, List.nil_append, List.cons_append]
  refine wpIn_wide.2 ?_
  go_wp2_with fail
  refine (shapes_any _).mono ?_
  rintro e W0 ⟨Bs, b, rfl, hsh⟩
  have hf4 := hsh.fr
  have HB1' := Lib.hid (HB1.out.fr hf4 (fun h => h))
  have HB2' := Lib.hid (HB2.out.fr hf4 (fun h => h))
  have HB3' := Lib.hid (HB3.out.fr hf4 (fun h => h))
  have HF0 := Lib.hid (HF2.out.trans hf4)
  have HEn0 := Lib.hid (HEn.out.new HF0.out)
  have HPt0 := Lib.hid (HPt.out.new HF0.out)
  have hz3 := HB3'.out.lt
  have hbb := hsh.bb
  have hBz := hsh.sz
  have HStp := Lib.hid (values_stops Fence.wide 5 trivial rfl (by decide) Bs b W0.heap.size W0 (Nat.le_refl _) (by omega) hsh.sz hsh.box hsh.row)
  rw [HB.out]
  clear hf4 hsh HB1 HB2 HB3 HF2 HEn HPt
  go_wp2_with fail
  refine (wpIn_wide (n := 6)).1 ?_
  refine wpIn_rangeFunc_ownH (F := Fence.wide) rfl (by decide) (gf := 39) (lb := #[.pointer (some ⟨Bs, 0, none⟩)]) rfl trivial (enters_of Tryd.func39 (by kernel_rfl) rfl)
    HStp.out (fun h k => h.trans k) (belowK_b (Nat.le_refl _)) (Below.refl _ _) (fun _ => rfl)
    (fun pre W => Hid (Fr Nob W0 W) ∧ Hid (NoGood ⟨ck, co, ca, cb, cf, cl, (p1, p2), (q1, q2), cn⟩ pre))
    (fun c pre W => ∃ q x, Hid (pre = q ++ [x]) ∧ Hid (NoGood ⟨ck, co, ca, cb, cf, cl, (p1, p2), (q1, q2), cn⟩ q) ∧ Hid (goodT ⟨ck, co, ca, cb, cf, cl, (p1, p2), (q1, q2), cn⟩ x.1 = true) ∧ c = .ret ∧ Hid (Fr (fun x => x = B + 1 ∨ x = B + 1 + 1) W0 W) ∧ Hid (Blk W (B + 1) 9 #[.string (tx (ln x.1.word (numsT x.1 ⟨ck, co, ca, cb, cf, cl, (p1, p2), (q1, q2), cn⟩)))]) ∧ Hid (Blk W (B + 1 + 1) 33 #[.int .i64 0]))
    (fun s Wa Wb row hs hg hr => ⟨hs.1.out.grown hg (fun r e => .inl (hr r e).1), hs.2⟩)
    (fun c s Wa Wb row hs hg hr => by
      obtain ⟨q, x, e1, e2, e3, h1, h3, h5, h6⟩ := hs
      exact ⟨q, x, e1, e2, e3, h1, h3.out.grown hg (fun r e => .inl (hr r e).1), blk_grown h5.out hg (fun r e => (hr r e).2), blk_grown h6.out hg (fun r e => (hr r e).2)⟩)
    ⟨Fr.refl _ _, fun x hx => by cases hx⟩
    (fun x a' W => ∃ Bx, W0.heap.size ≤ Bx ∧ Hid (Blk W Bx 54 x.1.cs.toArray) ∧ a' = textAct B Bs Bx (.agg #[.int .i64 ck, .int .i64 co, .int .i64 ca, .int .i64 cb, .bool cf, .slice A M m, .int .i64 p1, .int .i64 p2, .int .i64 q1, .int .i64 q2, .int .i64 cn]) x.1.v)
    (fun x a' s Wa Wb row hs hg hr => by obtain ⟨Bx, h1, h2, h3⟩ := hs; exact ⟨Bx, h1, blk_grown h2.out hg (fun r e => (hr r e).2), h3⟩) ?assign ?body ?done ?stop
  case assign =>
    rintro l pre ⟨x, hxm⟩ W K ⟨hI1, hI2⟩ hK
    have hz := hI1.out.size
    have HK := Lib.hid hK
    clear hK
    obtain ⟨wd, kd, op, fr, xn, xp⟩ := x
    dsimp only [encSh, Shp.v]
    gi_wp2
    refine HK.out _ _ ((KeepsOthers.alloc _ _).from _) (Below.alloc (Below.refl _ _) hz _) ⟨hI1.out.alloc _, hI2⟩ ⟨W.heap.size, hz, Blk.new W _ _, ?_⟩
    rfl
  case body =>
    rintro l pre ⟨x, hxm⟩ a' W hl hrec ⟨hI1, hI2⟩ ⟨Bx, hBx, hbx, rfl⟩ hlt
    have hb1 := HB1'.out.fr hI1.out (fun h => h)
    have d0 := hb1.cell 0
    have d1 := hb1.cell 1
    have d4 := hb1.cell 4
    have d5 := hb1.cell 5
    have hb1z := hb1.lt
    have hbz := hbx.out.lt
    have x0 := hbx.out.cell 0
    have x1 := hbx.out.cell 1
    have x2 := hbx.out.cell 2
    have x3 := hbx.out.cell 3
    have x4 := hbx.out.cell 4
    have x5 := hbx.out.cell 5
    obtain ⟨wd, kd, op, fr, xn, xp⟩ := x
    simp only [List.getElem?_toArray, List.getElem?_cons_zero, List.getElem?_cons_succ, Shp.cs] at d0 d1 d4 d5 x0 x1 x2 x3 x4 x5
    have Hb1 := Lib.hid hb1
    clear hrec hb1
    unfold textAct Shp.v
    dsimp only
    by_cases hk : kd = ck
    rotate_left
    · have hkb : (kd == ck) = false := by simpa using hk
      have HNo : Hid (goodT ⟨ck, co, ca, cb, cf, cl, (p1, p2), (q1, q2), cn⟩ ⟨wd, kd, op, fr, xn, xp⟩ = false) := by show _ = _; rw [HGd.out]; exact decide_eq_false (fun h => hk h.1)
      gi_wp2
      exact ⟨keepsFrom_fr (Fr.refl Nob _) (fun _ _ h => h), Below.refl _ _, hI1, hI2.out.snoc HNo.out⟩
    subst hk
    by_cases ho : op = co
    rotate_left
    · have hkb : (op == co) = false := by simpa using ho
      have HNo : Hid (goodT ⟨kd, co, ca, cb, cf, cl, (p1, p2), (q1, q2), cn⟩ ⟨wd, kd, op, fr, xn, xp⟩ = false) := by show _ = _; rw [HGd.out]; exact decide_eq_false (fun h => ho h.2.1)
      gi_wp2
      exact ⟨keepsFrom_fr (Fr.refl Nob _) (fun _ _ h => h), Below.refl _ _, hI1, hI2.out.snoc HNo.out⟩
    subst ho
    by_cases hf : fr = cf
    rotate_left
    · have hkb : (fr == cf) = false := by simpa using hf
      have HNo : Hid (goodT ⟨kd, op, ca, cb, cf, cl, (p1, p2), (q1, q2), cn⟩ ⟨wd, kd, op, fr, xn, xp⟩ = false) := by show _ = _; rw [HGd.out]; exact decide_eq_false (fun h => hf h.2.2.1)
      gi_wp2
      exact ⟨keepsFrom_fr (Fr.refl Nob _) (fun _ _ h => h), Below.refl _ _, hI1, hI2.out.snoc HNo.out⟩
    subst hf
    by_cases h64 : 64 < M
    · have HNo : Hid (goodT ⟨kd, op, ca, cb, fr, cl, (p1, p2), (q1, q2), cn⟩ ⟨wd, kd, op, fr, xn, xp⟩ = false) := by show _ = _; rw [HGd.out]; exact decide_eq_false (fun h => by have := h.2.2.2.1; have := HM.out; omega)
      gi_wp2
      exact ⟨keepsFrom_fr (Fr.refl Nob _) (fun _ _ h => h), Below.refl _ _, hI1, hI2.out.snoc HNo.out⟩
    have k64 : ¬ (64 : Int) < (M : Int) := by omega
    have d2 := Hb1.out.cell 2
    have d3 := Hb1.out.cell 3
    have d6 := Hb1.out.cell 6
    have d7 := Hb1.out.cell 7
    have d8 := Hb1.out.cell 8
    have d9 := Hb1.out.cell 9
    have d10 := Hb1.out.cell 10
    simp only [List.getElem?_toArray, List.getElem?_cons_zero, List.getElem?_cons_succ] at d2 d3 d6 d7 d8 d9 d10
    have hLk : cl.length ≤ 64 := by rw [HM.out]; omega
    have hxm' := hxm
    obtain ⟨L, hL⟩ : ∃ L, ln wd (numsT ⟨wd, kd, op, fr, xn, xp⟩ ⟨kd, op, ca, cb, fr, cl, (p1, p2), (q1, q2), cn⟩) = L := ⟨_, rfl⟩
    have hLl : L.length ≤ 100000 := by
      have h1 := ln_length wd _ (numsT_ok (x := ⟨wd, kd, op, fr, xn, xp⟩) HOk.out)
      have h2 := numsT_length ⟨wd, kd, op, fr, xn, xp⟩ ⟨kd, op, ca, cb, fr, cl, (p1, p2), (q1, q2), cn⟩ hLk hxm
      have h3 : wd.length ≤ 100 := (tbl_kinds _ hxm).2
      rw [hL] at h1
      omega
    have HWd : Hid (∀ U, Fr Nob W U → Calls Tryd.prog 20 #[.agg #[.string (tx wd), .int .i64 kd, .int .i64 op, .bool fr, .int .i64 xn, .int .i64 xp], .agg #[.int .i64 kd, .int .i64 op, .int .i64 ca, .int .i64 cb, .bool fr, .slice A M m, .int .i64 p1, .int .i64 p2, .int .i64 q1, .int .i64 q2, .int .i64 cn]] U fun e w' => e = .returned (.string (tx L)) ∧ Fr Nob U w') := by
      intro U hU
      have := words_any ⟨wd, kd, op, fr, xn, xp⟩ hxm ⟨kd, op, ca, cb, fr, cl, (p1, p2), (q1, q2), cn⟩ (.agg #[.int .i64 kd, .int .i64 op, .int .i64 ca, .int .i64 cb, .bool fr, .slice A M m, .int .i64 p1, .int .i64 p2, .int .i64 q1, .int .i64 q2, .int .i64 cn]) U ((HEn0.out.new hI1.out).new hU) ⟨A, m, by rw [← HM.out]; rfl, by show cl.length ≤ m; rw [HM.out]; exact hm, (HPt0.out.new hI1.out).new hU⟩ HOk.out hLk
      rwa [hL] at this
    obtain ⟨P, hP⟩ : ∃ P, parseC L = P := ⟨_, rfl⟩
    have hPl : P.1.line.length ≤ 1000000 := by rw [← hP]; exact parseC_line L
    have HPs : Hid (∀ U, Fr Nob W U → Calls Tryd.prog 9 #[.string (tx L)] U fun e w' => ∃ v, e = .returned (.tuple #[v, .int .i64 P.2]) ∧ CmIn w' P.1 v ∧ Fr Nob U w') := by
      intro U hU
      have := Parse_any (tx L) U ((HEn0.out.new hI1.out).new hU) (by show L.length ≤ _; omega)
      rw [bs_tx, hP] at this
      exact this
    have HGx : Hid (goodT ⟨kd, op, ca, cb, fr, cl, (p1, p2), (q1, q2), cn⟩ ⟨wd, kd, op, fr, xn, xp⟩ = decide (P = (⟨kd, op, ca, cb, fr, cl, (p1, p2), (q1, q2), cn⟩, 0))) := by
      show _ = _
      rw [HGd.out, ← hP, ← hL]
      apply decide_eq_decide.2
      exact ⟨fun h => h.2.2.2.2, fun h => ⟨rfl, rfl, rfl, hLk, h⟩⟩
    have HL := Lib.hid hL
    clear hP hL hLk hxm' h64
    gi_wp2_with fail
    refine ⟨trivial, (((callsIn_wide (n := 3)).2 (HWd.out _ (Fr.refl _ _))).inRound l).mono ?_⟩
    rintro e V1 ⟨rfl, hf1⟩
    have HF1 := Lib.hid hf1
    clear hf1
    gi_wp2_with fail
    refine ⟨trivial, (((callsIn_wide (n := 3)).2 (HPs.out _ HF1.out)).inRound l).mono ?_⟩
    rintro e V2 ⟨v, rfl, ⟨A2, m2, hv, hm2, hp2⟩, hf2⟩
    have HF2 := Lib.hid (HF1.out.trans hf2)
    obtain ⟨D, er⟩ := P
    dsimp only at hv hm2 hp2 hPl
    obtain ⟨dk, do', da, db, df, dl, ⟨r1, r2⟩, ⟨s1, s2⟩, dn⟩ := D
    unfold Cm.v at hv
    dsimp only at hv hm2 hp2 hPl
    subst hv
    have HP2 := Lib.hid hp2
    have hb1 := HB1'.out.fr (hI1.out.trans HF2.out) (fun h => h)
    have d0 := hb1.cell 0
    have d1 := hb1.cell 1
    have d2 := hb1.cell 2
    have d3 := hb1.cell 3
    have d4 := hb1.cell 4
    have d5 := hb1.cell 5
    have d6 := hb1.cell 6
    have d7 := hb1.cell 7
    have d8 := hb1.cell 8
    have d9 := hb1.cell 9
    have d10 := hb1.cell 10
    have hb1z := hb1.lt
    simp only [List.getElem?_toArray, List.getElem?_cons_zero, List.getElem?_cons_succ] at d0 d1 d2 d3 d4 d5 d6 d7 d8 d9 d10
    obtain ⟨m4, hm4⟩ : ∃ m4, dl.length = m4 := ⟨_, rfl⟩
    have HM4 := Lib.hid hm4
    rw [hm4] at hm2 hPl ⊢
    clear hf2 hp2 hb1 HWd HPs hm4
    by_cases he0 : er = 0
    rotate_left
    · have hkb : (er == 0) = false := by simpa using he0
      have HNo : Hid (goodT ⟨kd, op, ca, cb, fr, cl, (p1, p2), (q1, q2), cn⟩ ⟨wd, kd, op, fr, xn, xp⟩ = false) := by show _ = _; rw [HGx.out]; exact decide_eq_false (fun h => he0 (by injection h))
      have HF3 : Hid (Fr Nob W (V2.alloc (.cells #[.int .i64 dk, .int .i64 do', .int .i64 da, .int .i64 db, .bool df, .slice A2 m4 m2, .int .i64 r1, .int .i64 r2, .int .i64 s1, .int .i64 s2, .int .i64 dn] 32))) := HF2.out.alloc _
      gi_wp2
      refine ⟨trivial, ?_⟩
      gi_wp2
      exact ⟨keepsFrom_fr HF3.out (fun _ _ h => h), HF3.out.below hI1.out.size (fun _ h => h.elim), hI1.out.trans HF3.out, hI2.out.snoc HNo.out⟩
    · subst he0
      obtain ⟨sb, hsb⟩ : ∃ sb, decide ((⟨kd, op, ca, cb, fr, cl, (p1, p2), (q1, q2), cn⟩ : Cm) = ⟨dk, do', da, db, df, dl, (r1, r2), (s1, s2), dn⟩) = sb := ⟨_, rfl⟩
      have HSm : Hid (∀ U, Fr Nob V2 U → Calls Tryd.prog 21 #[.agg #[.int .i64 kd, .int .i64 op, .int .i64 ca, .int .i64 cb, .bool fr, .slice A M m, .int .i64 p1, .int .i64 p2, .int .i64 q1, .int .i64 q2, .int .i64 cn], .agg #[.int .i64 dk, .int .i64 do', .int .i64 da, .int .i64 db, .bool df, .slice A2 m4 m2, .int .i64 r1, .int .i64 r2, .int .i64 s1, .int .i64 s2, .int .i64 dn]] U fun e w' => e = .returned (.bool sb) ∧ Fr Nob U w') := by
        intro U hU
        have := same_any ⟨kd, op, ca, cb, fr, cl, (p1, p2), (q1, q2), cn⟩ ⟨dk, do', da, db, df, dl, (r1, r2), (s1, s2), dn⟩ A A2 m m2 U (((HPt0.out.new hI1.out).new HF2.out).new hU) (HP2.out.new hU) (by show cl.length ≤ _; rw [HM.out]; exact hlen') (by show dl.length ≤ _; rw [HM4.out]; exact hPl)
        unfold Cm.v at this
        dsimp only at this
        rw [HM.out, HM4.out, hsb] at this
        exact this
      have HSb : Hid (goodT ⟨kd, op, ca, cb, fr, cl, (p1, p2), (q1, q2), cn⟩ ⟨wd, kd, op, fr, xn, xp⟩ = sb) := by
        show _ = _
        rw [HGx.out, ← hsb]
        apply decide_eq_decide.2
        exact ⟨fun h => by injection h with h1 h2; exact h1.symm, fun h => by rw [h]⟩
      have hf3 : Fr Nob V2 (V2.alloc (.cells #[.int .i64 dk, .int .i64 do', .int .i64 da, .int .i64 db, .bool df, .slice A2 m4 m2, .int .i64 r1, .int .i64 r2, .int .i64 s1, .int .i64 s2, .int .i64 dn] 32)) := (Fr.refl _ _).alloc _
      have HF3 := Lib.hid hf3
      clear hsb hf3
      gi_wp2_with fail
      refine ⟨trivial, (((callsIn_wide (n := 3)).2 (HSm.out _ HF3.out)).inRound l).mono ?_⟩
      rintro e V3 ⟨rfl, hf4⟩
      have HF4 := Lib.hid ((HF2.out.trans HF3.out).trans hf4)
      clear hf4 HSm
      cases sb with
      | false =>
        gi_wp2
        exact ⟨keepsFrom_fr HF4.out (fun _ _ h => h), HF4.out.below hI1.out.size (fun _ h => h.elim), hI1.out.trans HF4.out, hI2.out.snoc HSb.out⟩
      | true =>
        have hb2 := HB2'.out.fr (hI1.out.trans HF4.out) (fun h => h)
        have hb3 := HB3'.out.fr (hI1.out.trans HF4.out) (fun h => h)
        have e0 := hb2.cell 0
        have fe0 := hb2.frozen 0
        have g0 := hb3.cell 0
        have fg0 := hb3.frozen 0
        have hz2 := hb2.lt
        have hz4 := hb3.lt
        simp only [List.getElem?_toArray, List.getElem?_cons_zero] at e0 g0
        have HE2 : Hid (Blk ((V3.setCell ⟨B + 1, 0, none⟩ (.string (tx L))).setCell ⟨B + 1 + 1, 0, none⟩ (.int .i64 0)) (B + 1) 9 #[.string (tx L)]) := (hb2.set_ 0 (.string (tx L))).far (p := ⟨B + 1 + 1, 0, none⟩) (by dsimp only; omega) _
        have HE3 : Hid (Blk ((V3.setCell ⟨B + 1, 0, none⟩ (.string (tx L))).setCell ⟨B + 1 + 1, 0, none⟩ (.int .i64 0)) (B + 1 + 1) 33 #[.int .i64 0]) := (hb3.far (p := ⟨B + 1, 0, none⟩) (by dsimp only; omega) (.string (tx L))).set_ 0 _
        have HFE : Hid (Fr (fun x => x = B + 1 ∨ x = B + 1 + 1) V3 ((V3.setCell ⟨B + 1, 0, none⟩ (.string (tx L))).setCell ⟨B + 1 + 1, 0, none⟩ (.int .i64 0))) := fr_set1 (fr_set1 (Fr.refl _ V3) (B + 1) 0 (.inl rfl) (.string (tx L))) (B + 1 + 1) 0 (.inr rfl) (.int .i64 0)
        clear hb2 hb3
        gi_wp2
        refine ⟨keepsFrom_fr ((HF4.out.mono (fun _ _ h => h.elim)).trans HFE.out) (fun k hk => by omega), pre, ⟨_, hxm⟩, rfl, hI2, HSb, rfl, ((hI1.out.trans HF4.out).mono (fun _ _ h => h.elim)).trans HFE.out, ?_, HE3⟩
        rw [HL.out]
        exact HE2
  case done =>
    rintro D ys W hD rfl ⟨hI1, hI2⟩ hK
    have HTn : Hid (T = none) := by
      show T = none
      rw [← HT.out]
      unfold textC
      rw [List.find?_eq_none.2 (fun x hx h => by rw [hI2.out ⟨x, hx⟩ (List.mem_attach _ _)] at h; cases h)]
      rfl
    have hb2 := HB2'.out.fr hI1.out (fun h => h)
    have hb3 := HB3'.out.fr hI1.out (fun h => h)
    have e0 := hb2.cell 0
    have fe0 := hb2.frozen 0
    have g0 := hb3.cell 0
    have fg0 := hb3.frozen 0
    have hz2 := hb2.lt
    have hz4 := hb3.lt
    simp only [List.getElem?_toArray, List.getElem?_cons_zero] at e0 g0
    have HE2 : Hid (Blk ((W.setCell ⟨B + 1, 0, none⟩ (.string ⟨#[]⟩)).setCell ⟨B + 1 + 1, 0, none⟩ (.int .i64 1)) (B + 1) 9 #[.string ⟨#[]⟩]) := (hb2.set_ 0 (.string ⟨#[]⟩)).far (p := ⟨B + 1 + 1, 0, none⟩) (by dsimp only; omega) _
    have HE3 : Hid (Blk ((W.setCell ⟨B + 1, 0, none⟩ (.string ⟨#[]⟩)).setCell ⟨B + 1 + 1, 0, none⟩ (.int .i64 1)) (B + 1 + 1) 33 #[.int .i64 1]) := (hb3.far (p := ⟨B + 1, 0, none⟩) (by dsimp only; omega) (.string ⟨#[]⟩)).set_ 0 _
    have HFE : Hid (Fr (fun x => x = B + 1 ∨ x = B + 1 + 1) W ((W.setCell ⟨B + 1, 0, none⟩ (.string ⟨#[]⟩)).setCell ⟨B + 1 + 1, 0, none⟩ (.int .i64 1))) := fr_set1 (fr_set1 (Fr.refl _ W) (B + 1) 0 (.inl rfl) (.string ⟨#[]⟩)) (B + 1 + 1) 0 (.inr rfl) (.int .i64 1)
    have HD := Lib.hid hK
    clear hb2 hb3 hK
    go_wp2
    have hD1 : ((W.setCell ⟨B + 1, 0, none⟩ (.string ⟨#[]⟩)).setCell ⟨B + 1 + 1, 0, none⟩ (.int .i64 1)).heap[D]? = some (.deferred (some [])) := (HFE.out.block D (Array.getElem?_eq_some_iff.1 HD.out).1 (by omega)).trans HD.out
    have hg5 := grownBy_putObj' ((W.setCell ⟨B + 1, 0, none⟩ (.string ⟨#[]⟩)).setCell ⟨B + 1 + 1, 0, none⟩ (.int .i64 1)) D (.deferred none)
    refine ⟨by simp, .inl ⟨_, _, rfl, run_takeDeferred hD1, ?_⟩⟩
    refine ⟨_, text_results rfl _ _ _ _ _ _ _ _ rfl rfl (HE2.out.grown hg5 (fun e => by injection e with e; omega)) (HE3.out.grown hg5 (fun e => by injection e with e; omega)), ?_⟩
    rw [HTn.out]
    refine ⟨rfl, ?_⟩
    exact ((((HF0.out.trans hI1.out).mono (G := fun x => x = B + 1 ∨ x = B + 1 + 1) (fun _ _ h => h.elim)).trans HFE.out).grown hg5 (fun k e => by injection e with e; subst e; exact .inl (by have := HF0.out.size; omega))).mono (fun i hi h => by have := HB.out; omega)
  case stop =>
    rintro D c pre W hD hpre ⟨q, x, e1, e2, e3, rfl, hI1, hb2, hb3⟩ hK
    have HTs : Hid (T = some (ln x.1.word (numsT x.1 ⟨ck, co, ca, cb, cf, cl, (p1, p2), (q1, q2), cn⟩))) := by
      show T = _
      rw [← HT.out]
      unfold textC
      rw [find_at _ (e1.out ▸ hpre) e2.out e3.out]
      rfl
    have hz5 : B + 1 + 1 < W.heap.size := hb3.out.lt
    have hg5 := grownBy_putObj' W D (.deferred none)
    gi_wp2
    refine ⟨by simp, .inl ⟨_, _, rfl, run_takeDeferred hK, ?_⟩⟩
    refine ⟨_, text_results rfl _ _ _ _ _ _ _ _ rfl rfl (hb2.out.grown hg5 (fun e => by injection e with e; omega)) (hb3.out.grown hg5 (fun e => by injection e with e; omega)), ?_⟩
    rw [HTs.out]
    refine ⟨rfl, ?_⟩
    exact (((HF0.out.mono (G := fun x => x = B + 1 ∨ x = B + 1 + 1) (fun _ _ h => h.elim)).trans hI1.out).grown hg5 (fun k e => by injection e with e; subst e; exact .inl (by have := HF0.out.size; omega))).mono (fun i hi h => by have := HB.out; omega)
end Go.Proofs.YtidohbhcjnmmeaaDoor
