/-
  Commands: Parse.
-/
import Derived.Test.YtidohbhcjnmmeaaDoorCmdSpl
import Derived.Test.YtidohbhcjnmmeaaDoorCmd4
import Derived.Test.YtidohbhcjnmmeaaDoorRegIn
namespace Go.Proofs.YtidohbhcjnmmeaaDoor
set_option linter.unusedSimpArgs false
set_option linter.unusedVariables false
open Go.RowKit Go.Shelf
attribute [local go_sem] Oper.semAt_some

/-- What the code makes of a line: a command, and the error's number. -/
def parseC (l : List UInt8) : Cm × Int :=
  if 2000 < l.length then ({ kind := 0 }, 2) else
    match tbl.find? (fun x => decide (x.word = (spl l).headD [])) with
    | none => ({ kind := 0 }, 3)
    | some x => match numsC (spl l).tail with
      | none => ({ kind := 0 }, 3)
      | some ns => if x.fits ns.length then (x.made ns, 0) else ({ kind := 0 }, 3)

theorem PtsIn.grown {w w' : World} {A : Option Addr} {l : List (Int × Int)} {row : Option Nat} (h : PtsIn w A l) (hg : w.grownBy w' row) (hr : ∀ r, row = some r → ∃ o : Obj, w.heap[r]? = some o ∧ o.isCells = false) : PtsIn w' A l := fun h0 => by
  obtain ⟨g, o, rfl, hc⟩ := h h0
  exact ⟨g, o, rfl, fun j p hp => ⟨cell_kept (hc j p hp).1 hg hr, cell_kept (hc j p hp).2 hg hr⟩⟩
theorem CmIn.grown {w w' : World} {c : Cm} {v : Value} {row : Option Nat} (h : CmIn w c v) (hg : w.grownBy w' row) (hr : ∀ r, row = some r → ∃ o : Obj, w.heap[r]? = some o ∧ o.isCells = false) : CmIn w' c v := by
  obtain ⟨B, m, e, hm, hp⟩ := h
  exact ⟨B, m, e, hm, hp.grown hg hr⟩
theorem blk_grown {g : Nat} {t : TypeId} {cs : Array Value} {w w' : World} {row : Option Nat} (h : Blk w g t cs) (hg : w.grownBy w' row) (hr : ∀ r, row = some r → ∃ o : Obj, w.heap[r]? = some o ∧ o.isCells = false) : Blk w' g t cs :=
  h.grown hg (fun e => by
    obtain ⟨o, ho, hc⟩ := hr g e.symm
    unfold Blk at h
    rw [h] at ho
    injection ho with ho
    subst ho
    cases hc)

theorem keepsFrom_fr {F : Nat → Prop} {n : Nat} {w w' : World} (h : Fr F w w') (hF : ∀ k, n ≤ k → ¬ F k) : KeepsFrom n w w' :=
  ⟨h.size, fun k o hk ho _ => (h.block k (Array.getElem?_eq_some_iff.1 ho).1 (hF k hk)).trans ho⟩
theorem find_at (p : Shp → Bool) {q : List ShT} {x : ShT} (h : q ++ [x] <+: tblA) (hq : ∀ y ∈ q, p y.1 = false) (hx : p x.1 = true) : tbl.find? p = some x.1 := by
  obtain ⟨t, ht⟩ := h
  have e : tbl.find? p = (tblA.map (·.1)).find? p := by rw [tblA_map]
  rw [e, ← ht, List.append_assoc, List.map_append, List.find?_append, List.find?_eq_none.2 (fun y hy h => by
    obtain ⟨z, hz, rfl⟩ := List.mem_map.1 hy
    rw [hq z hz] at h
    cases h), List.singleton_append, List.map_cons, List.find?_cons_of_pos hx]
  rfl
/-- Two results that lie in cells: a struct and a number. -/
theorem results_cc {fn : Func} {p q : Tmp} {t1 t2 : TypeId} (h : fn.results = #[.cell p t1, .cell q t2]) (tmps : Array Value) (P : Program) (w : World) :
    (results fn tmps).run P w =
      ((asAddr (tmps.getD p undef)).run P w).andThen fun a w₁ => ((loadVar t1 a).run P w₁).andThen fun v w₂ =>
        ((asAddr (tmps.getD q undef)).run P w₂).andThen fun b w₃ => ((loadVar t2 b).run P w₃).andThen fun u w₄ => .ok (.tuple #[v, u]) w₄ := by
  simp only [results, h]
  simp [Sem.run_bind, Result.andThen]
theorem cmd_results {fn : Func} {p q : Tmp} (h : fn.results = #[.cell p 32, .cell q 33]) (tmps : Array Value) (w : World) (g k : Nat) (t1 t2 : TypeId) (cs : Array Value) (n : Int)
    (hp : tmps.getD p undef = .pointer (some ⟨g, 0, none⟩)) (hq : tmps.getD q undef = .pointer (some ⟨k, 0, none⟩)) (hg : Blk w g t1 cs) (hk : Blk w k t2 #[.int .i64 n]) (hs : cs.size = 11) :
    (results fn tmps).run Tryd.prog w = .ok (.tuple #[.agg cs, .int .i64 n]) w := by
  have c0 := hk.cell 0
  simp only [List.getElem?_toArray, List.getElem?_cons_zero] at c0
  rw [results_cc h, hp, hq]
  simp only [asAddr, Sem.run_pure, Result.andThen_ok]
  rw [run_loadVar_row w g t1 32 cs (0, 0) _ hg Tryd.underlying32 rfl (by rw [hs]; exact cmd_size)]
  simp [go_sem, c0]

theorem cm_size (c : Cm) (L : Value) : ∃ cs, c.v L = .agg cs ∧ cs.size = 11 := ⟨_, rfl, rfl⟩

section
variable (w : World)
def zCmd : Array Value := #[.int .i64 0, .int .i64 0, .int .i64 0, .int .i64 0, .bool false, .slice none 0 0, .int .i64 0, .int .i64 0, .int .i64 0, .int .i64 0, .int .i64 0]
end

/-- Where Parse's loop stands behind its assignment. -/
def parseAct (s : ByteArray) (B N g B4 Bs Bx : Nat) (xv : Value) : Act :=
  { tmps := #[.string s, undef, .pointer (some ⟨B, 0, none⟩), .pointer (some ⟨B + 1, 0, none⟩), .pointer (some ⟨B4, 0, none⟩), .pointer (some ⟨Bx, 0, none⟩), undef, undef, .string s, .int .i64 s.size, .bool (decide (2000 < (s.size : Int))), undef, .string s,
      .slice (some ⟨g, 0, none⟩) N N, .func (.func 39) #[] #[.pointer (some ⟨Bs, 0, none⟩)], xv, undef, undef, undef, undef, undef, undef, undef, undef, undef, undef, undef, undef, undef, undef, undef, undef, undef, undef, undef, undef, undef, undef, undef, undef, undef], defers := [] }

set_option maxHeartbeats 3200000 in
set_option maxRecDepth 100000 in
theorem Parse_any (s : ByteArray) (w : World) (he : Env w) (hs : s.size ≤ 140737488351232) :
    Calls Tryd.prog 9 #[.string s] w fun e w' => ∃ v, e = .returned (.tuple #[v, .int .i64 (parseC (bs s)).2]) ∧ CmIn w' (parseC (bs s)).1 v ∧ Fr Nob w w' := by
  have qS := len_strs
  have qI := len_i64s
  have HEn := Lib.hid he
  obtain ⟨B, hB⟩ : ∃ B, w.heap.size = B := ⟨_, rfl⟩
  have HB := Lib.hid hB
  have hf2 : Fr Nob w ((w.alloc (.cells zCmd 32)).alloc (.cells #[.int .i64 0] 33)) := ((Fr.refl Nob w).alloc _).alloc _
  have hb2 : Blk ((w.alloc (.cells zCmd 32)).alloc (.cells #[.int .i64 0] 33)) B 32 zCmd := by rw [← hB]; exact (Blk.new w _ _).alloc _
  have hb3 : Blk ((w.alloc (.cells zCmd 32)).alloc (.cells #[.int .i64 0] 33)) (B + 1) 33 #[.int .i64 0] := by
    rw [← hB]
    have := Blk.new (w.alloc (.cells zCmd 32)) 33 #[.int .i64 0]
    rwa [World.size_alloc] at this
  have HF2 := Lib.hid hf2
  have HB2 := Lib.hid hb2
  have HB3 := Lib.hid hb3
  unfold zCmd at HF2 HB2 HB3
  clear hf2 hb2 hb3 hB he
  refine (callsIn_wide (n := 6)).1 ?_
  refine callsIn_of_wp_marks Tryd.func9 rfl trivial ?_ rfl
  simp only [Tryd.ntmps9, List.size_toArray, List.length_cons, List.length_nil, Nat.reduceAdd, Nat.reduceSub, Array.replicate_succ, Array.replicate_zero, List.push_toArray, List.append_toArray, List.nil_append, List.cons_append]
  refine wpIn_wide.2 ?_
  by_cases hl : 2000 < s.size
  · have HP : Hid (parseC (bs s) = ({ kind := 0 }, 2)) := if_pos hl
    have HF3 : Hid (Fr Nob w ((w.alloc (.cells #[.int .i64 0, .int .i64 0, .int .i64 0, .int .i64 0, .bool false, .slice none 0 0, .int .i64 0, .int .i64 0, .int .i64 0, .int .i64 0, .int .i64 0] 32)).alloc (.cells #[.int .i64 2] 33))) := ((Fr.refl Nob w).alloc _).alloc _
    go_wp2
    refine ⟨_, cmd_results rfl _ _ _ _ _ _ _ _ rfl rfl ((Blk.new w _ _).alloc _) (by have := Blk.new (w.alloc (.cells #[.int .i64 0, .int .i64 0, .int .i64 0, .int .i64 0, .bool false, .slice none 0 0, .int .i64 0, .int .i64 0, .int .i64 0, .int .i64 0, .int .i64 0] 32)) 33 #[.int .i64 2]; rwa [World.size_alloc] at this) rfl, ?_⟩
    rw [HP.out]
    exact ⟨_, rfl, ⟨none, 0, rfl, Nat.le_refl _, fun h => absurd h (by simp)⟩, HF3.out⟩
  · have hsz : (bs s).length ≤ 2000 := by show s.size ≤ 2000; omega
    have HSp : Hid (∀ W, Fr Nob w W → Calls Tryd.prog 15 #[.string s, .string ⟨#[32]⟩] W fun e w' => ∃ g, e = .returned (.slice (some ⟨g, 0, none⟩) (spl (bs s)).length (spl (bs s)).length) ∧ W.heap.size ≤ g ∧ g < w'.heap.size ∧ StrIn w' (some ⟨g, 0, none⟩) (spl (bs s)) ∧ Fr Nob W w') := fun W hW => Split_any s W (HEn.out.new hW) (by omega)
    have hln := spl_len (bs s)
    have HEach := Lib.hid (spl_each (bs s))
    have HPn : Hid (∀ x, parseC (bs s) = x ↔ (match tbl.find? (fun x => decide (x.word = (spl (bs s)).headD [])) with
      | none => ({ kind := 0 }, 3)
      | some x => match numsC (spl (bs s)).tail with
        | none => ({ kind := 0 }, 3)
        | some ns => if x.fits ns.length then (x.made ns, 0) else (({ kind := 0 }, 3) : Cm × Int)) = x) := fun x => by unfold parseC; rw [if_neg (by omega)]
    obtain ⟨w0, r0, hwr⟩ := spl_cons (bs s)
    obtain ⟨P, hP⟩ : ∃ P, parseC (bs s) = P := ⟨_, rfl⟩
    rw [hwr] at HSp hln HEach HPn
    rw [hP] at HPn ⊢
    obtain ⟨N, hN⟩ : ∃ N, (w0 :: r0).length = N := ⟨_, rfl⟩
    have HN := Lib.hid hN
    rw [hN] at HSp hln
    have hN1 : 1 ≤ N := by rw [← hN]; simp
    clear hwr hP hN
    go_wp2_with fail
    refine (HSp.out _ HF2.out).mono ?_
    rintro e w3 ⟨g, rfl, hg1, hg2, hst, hf3⟩
    have HSt := Lib.hid hst
    have HF3 := Lib.hid (HF2.out.trans hf3)
    have HB2' := Lib.hid (HB2.out.fr hf3 (fun h => h))
    have HB3' := Lib.hid (HB3.out.fr hf3 (fun h => h))
    have hz3 := HB3'.out.lt
    clear hst hf3 HSp HB2 HB3 HF2 hg1
    go_wp2_with fail
    have hb4 := Blk.new w3 47 #[.slice (some ⟨g, 0, none⟩) N N]
    refine (shapes_any _).mono ?_
    rintro e W0 ⟨Bs, b, rfl, hsh⟩
    have hf4 := hsh.fr
    have HB2 := Lib.hid ((HB2'.out.alloc (.cells #[.slice (some ⟨g, 0, none⟩) N N] 47)).fr hf4 (fun h => h))
    have HB3 := Lib.hid ((HB3'.out.alloc (.cells #[.slice (some ⟨g, 0, none⟩) N N] 47)).fr hf4 (fun h => h))
    have HB4 := Lib.hid (hb4.fr hf4 (fun h => h))
    have HSt0 := Lib.hid ((HSt.out.new ((Fr.refl Nob w3).alloc (.cells #[.slice (some ⟨g, 0, none⟩) N N] 47))).new hf4)
    have HF0 := Lib.hid ((HF3.out.alloc (.cells #[.slice (some ⟨g, 0, none⟩) N N] 47)).trans hf4)
    have HEn0 := Lib.hid (HEn.out.new HF0.out)
    obtain ⟨B4, hB4⟩ : ∃ B4, w3.heap.size = B4 := ⟨_, rfl⟩
    rw [hB4] at HB4 hz3 hg2 ⊢
    have hz4 := HB4.out.lt
    have HShp := Lib.hid hsh
    have hbb := hsh.bb
    have hBz := hsh.sz
    have HStp := Lib.hid (values_stops Fence.wide 5 trivial rfl (by decide) Bs b W0.heap.size W0 (Nat.le_refl _) (by omega) hsh.sz hsh.box hsh.row)
    rw [HB.out]
    clear hb4 hf4 hsh HB2' HB3' HSt HF3 HEn hB4
    go_wp2_with fail
    refine (wpIn_wide (n := 6)).1 ?_
    refine wpIn_rangeFunc_ownH (F := Fence.wide) rfl (by decide) (gf := 39) (lb := #[.pointer (some ⟨Bs, 0, none⟩)]) rfl trivial (enters_of Tryd.func39 (by kernel_rfl) rfl)
      HStp.out (fun h k => h.trans k) (belowK_b (Nat.le_refl _)) (Below.refl _ _) (fun _ => rfl)
      (fun pre W => Hid (Fr Nob W0 W) ∧ Hid (∀ x ∈ pre, x.1.word ≠ w0))
      (fun c pre W => ∃ q x, Hid (pre = q ++ [x]) ∧ Hid (∀ x ∈ q, x.1.word ≠ w0) ∧ Hid (x.1.word = w0) ∧ ((c = .exit 0 ∧ Hid (∀ ns, numsC r0 = some ns → x.1.fits ns.length = false) ∧ Hid (Fr Nob W0 W)) ∨
        (c = .ret ∧ ∃ ns, Hid (numsC r0 = some ns) ∧ Hid (x.1.fits ns.length = true) ∧ Hid (Fr (fun x => x = B ∨ x = B + 1) W0 W) ∧ ∃ cs, cs.size = 11 ∧ Hid (Blk W B 32 cs) ∧ Hid (Blk W (B + 1) 33 #[.int .i64 0]) ∧ Hid (CmIn W (x.1.made ns) (.agg cs)))))
      (fun s Wa Wb row hs hg hr => ⟨hs.1.out.grown hg (fun r e => .inl (hr r e).1), hs.2⟩)
      (fun c s Wa Wb row hs hg hr => by
        obtain ⟨q, x, e1, e2, e3, hs⟩ := hs
        refine ⟨q, x, e1, e2, e3, ?_⟩
        rcases hs with ⟨h1, h2, h3⟩ | ⟨h1, ns, h2, h2', h3, cs, h4, h5, h6, h7⟩
        · exact .inl ⟨h1, h2, h3.out.grown hg (fun r e => .inl (hr r e).1)⟩
        · exact .inr ⟨h1, ns, h2, h2', h3.out.grown hg (fun r e => .inl (hr r e).1), cs, h4, blk_grown h5.out hg (fun r e => (hr r e).2), blk_grown h6.out hg (fun r e => (hr r e).2), h7.out.grown hg (fun r e => (hr r e).2)⟩)
      ⟨Fr.refl _ _, fun x hx => by cases hx⟩
      (fun x a' W => ∃ Bx, W0.heap.size ≤ Bx ∧ Hid (Blk W Bx 54 x.1.cs.toArray) ∧ a' = parseAct s B N g B4 Bs Bx x.1.v)
      (fun x a' s Wa Wb row hs hg hr => by obtain ⟨Bx, h1, h2, h3⟩ := hs; exact ⟨Bx, h1, blk_grown h2.out hg (fun r e => (hr r e).2), h3⟩) ?assign ?body ?done ?stop
    case assign =>
      rintro l pre ⟨x, hxm⟩ W K ⟨hI1, hI2⟩ hK
      have hz := hI1.out.size
      have HK := Lib.hid hK
      clear hK
      obtain ⟨wd, kd, op, fr, xn, xp⟩ := x
      dsimp only [encSh, Shp.v]
      gi_wp2
      refine HK.out _ _ ((KeepsOthers.alloc _ _).from _) (Below.alloc (Below.refl _ _) hz _) ⟨hI1.out.alloc _, hI2⟩ ⟨W.heap.size, hz, Blk.new W _ _, ?_⟩
      rfl
    case body =>
      rintro l pre ⟨x, hxm⟩ a' W hl hrec ⟨hI1, hI2⟩ ⟨Bx, hBx, hbx, rfl⟩ hlt
      have hxb := tbl_bounds x hxm
      have b4 := HB4.out.fr hI1.out (fun h => h)
      have v4 := b4.cell 0
      have hst := HSt0.out.new hI1.out
      have s0 : W.cell? ⟨g, 0, none⟩ = some (.string (tx w0)) := by
        obtain ⟨g', o', e, hc⟩ := hst (by simp)
        injection e with e
        injection e with e1 e2
        subst e1 e2
        exact hc 0 w0 rfl
      have hst1 : StrIn W (some ⟨g, 1, none⟩) r0 := hst.tail
      have hgz := cell_lt s0
      have hb4z := b4.lt
      have hbz := hbx.out.lt
      have x0 := hbx.out.cell 0
      have x1 := hbx.out.cell 1
      have x2 := hbx.out.cell 2
      have x3 := hbx.out.cell 3
      have x4 := hbx.out.cell 4
      have x5 := hbx.out.cell 5
      obtain ⟨wd, kd, op, fr, xn, xp⟩ := x
      simp only [List.getElem?_toArray, List.getElem?_cons_zero, List.getElem?_cons_succ, Shp.cs] at v4 x0 x1 x2 x3 x4 x5
      dsimp only at hgz hxb
      have HSt1 := Lib.hid hst1
      have HBl4 := Lib.hid b4
      clear hst hst1 b4 hrec
      unfold parseAct Shp.v
      dsimp only
      by_cases hw : wd = w0
      · have hcmp : ((tx wd).toList == (tx w0).toList) = true := by rw [beq_tx']; exact decide_eq_true hw
        have HW := Lib.hid hw
        clear hw
        gi_wp2
        have hS : Fr Nob W W.drew := (Fr.refl Nob W).drew
        refine RgI.begin (Fr Nob W) [] (by kernel_rfl) ?_
        refine RgI.op 0 (some 16) hS (v := ?v0e) (a' := ?a0e) (hy := fun wz hwz => ?h0e) (ha := ?b0e) (h := ?_)
        case h0e => (have hq := Nat.lt_of_lt_of_le hbz hwz.size; go_simp; try with_reducible rfl)
        case b0e => (simp only [Act.put, List.setIfInBounds_toArray, List.set_cons_zero, List.set_cons_succ]; rfl)
        refine RgI.op 1 (some 17) hS (v := (.string (tx wd))) (a' := ?a1e) (hy := fun wz hwz => ?h1e) (ha := ?b1e) (h := ?_)
        case h1e => (have hq := Nat.lt_of_lt_of_le hbz hwz.size; have cx := (hwz.cell (p := ⟨Bx, 0, none⟩) hbz (fun h => h)).trans x0; go_simp; try with_reducible rfl)
        case b1e => (simp only [Act.put, List.setIfInBounds_toArray, List.set_cons_zero, List.set_cons_succ]; rfl)
        refine RgI.op 2 (some 18) hS (v := (.slice (some ⟨g, 0, none⟩) N N)) (a' := ?a2e) (hy := fun wz hwz => ?h2e) (ha := ?b2e) (h := ?_)
        case h2e => (have hq := Nat.lt_of_lt_of_le hb4z hwz.size; have cx := (hwz.cell (p := ⟨B4, 0, none⟩) hb4z (fun h => h)).trans v4; go_simp; try with_reducible rfl)
        case b2e => (simp only [Act.put, List.setIfInBounds_toArray, List.set_cons_zero, List.set_cons_succ]; rfl)
        refine RgI.op 3 (some 19) hS (v := ?v3e) (a' := ?a3e) (hy := fun wz hwz => ?h3e) (ha := ?b3e) (h := ?_)
        case h3e => (have hq : 0 < N := hN1; go_simp; try with_reducible rfl)
        case b3e => (simp only [Act.put, List.setIfInBounds_toArray, List.set_cons_zero, List.set_cons_succ]; rfl)
        refine RgI.op 4 (some 20) hS (v := (.string (tx w0))) (a' := ?a4e) (hy := fun wz hwz => ?h4e) (ha := ?b4e) (h := ?_)
        case h4e => (have hq := Nat.lt_of_lt_of_le hgz hwz.size; have cx := (hwz.cell (p := ⟨g, 0, none⟩) hgz (fun h => h)).trans s0; go_simp; try with_reducible rfl)
        case b4e => (simp only [Act.put, List.setIfInBounds_toArray, List.set_cons_zero, List.set_cons_succ]; rfl)
        refine RgI.op 5 (some 21) hS (v := (.bool false)) (a' := ?a5e) (hy := fun wz hwz => ?h5e) (ha := ?b5e) (h := ?_)
        case h5e => (go_simp; try with_reducible rfl)
        case b5e => (simp only [Act.put, List.setIfInBounds_toArray, List.set_cons_zero, List.set_cons_succ]; rfl)
        refine RgI.done _ (h := ?_)
        have hr0 : r0.length = N - 1 := by have := HN.out; simp at this; omega
        have HNum : Hid (∀ A m c U, m = r0.length → (0 < m → A = some ⟨g, 1, none⟩) → Fr Nob W U → Calls Tryd.prog 17 #[.slice A m c] U fun e w' => ∃ B n c ok, e = .returned (.tuple #[.slice B n c, .bool ok]) ∧ NumsAre w' (numsC r0) B n c ok ∧ Fr Nob U w') := by
          intro A m c U hm hA hU
          subst hm
          exact Numbers_any A c r0 U ((HEn0.out.new hI1.out).new hU) (fun h0 => by have e := hA h0; subst e; exact HSt1.out.new hU h0) (by omega) (fun x hx => by have := (HEach.out x (by simp [hx])).1; omega)
        have HSz := Lib.hid hr0
        clear hr0
        gi_wp2_with fail
        case' inl => refine ⟨trivial, (((callsIn_wide (n := 3)).2 (HNum.out _ 0 _ _ (by have := HSz.out; omega) (fun h => absurd h (by decide)) hS)).inRound l).mono ?_⟩
        case' inr => refine ⟨trivial, (((callsIn_wide (n := 3)).2 (HNum.out _ (N - 1) _ _ (by have := HSz.out; omega) (fun _ => rfl) hS)).inRound l).mono ?_⟩
        all_goals
          rintro e V ⟨A, n, c, ok, rfl, ⟨hnc, hna⟩, hfV⟩
          have HFV := Lib.hid (hS.trans hfV)
          have x0 := (HFV.out.cell (p := ⟨Bx, 0, none⟩) hbz (fun h => h)).trans x0
          have x1 := (HFV.out.cell (p := ⟨Bx, 1, none⟩) hbz (fun h => h)).trans x1
          have x2 := (HFV.out.cell (p := ⟨Bx, 2, none⟩) hbz (fun h => h)).trans x2
          have x3 := (HFV.out.cell (p := ⟨Bx, 3, none⟩) hbz (fun h => h)).trans x3
          have x4 := (HFV.out.cell (p := ⟨Bx, 4, none⟩) hbz (fun h => h)).trans x4
          have x5 := (HFV.out.cell (p := ⟨Bx, 5, none⟩) hbz (fun h => h)).trans x5
          have hbz := Nat.lt_of_lt_of_le hbz HFV.out.size
          clear s0 v4 hfV hS HNum hcmp
          cases hns : numsC r0 with
          | none =>
            rw [hns] at hna
            subst hna
            have HNs := Lib.hid hns
            clear hns
            gi_wp2
            refine ⟨trivial, ?_⟩
            gi_wp2
            exact ⟨keepsFrom_fr HFV.out (fun _ _ h => h), pre, ⟨_, hxm⟩, rfl, hI2, HW, .inl ⟨rfl, fun ns e => (by rw [HNs.out] at e; cases e), hI1.out.trans HFV.out⟩⟩
          | some ns =>
            rw [hns] at hna
            have HNs := Lib.hid hns
            have hnl := numsC_length hns
            clear hns
            obtain ⟨rfl, hn, hI, hSl⟩ := hna
            subst hn
            have hx1 := hxb.1
            have hx2 := hxb.2
            have HFt := Lib.hid (fits_any ⟨wd, kd, op, fr, xn, xp⟩ ns.length V (by have := HSz.out; omega) hx1 hx2)
            have HMd : Hid (∀ U, Fr Nob V U → xn ≤ ns.length → Calls Tryd.prog 19 #[.agg #[.string (tx wd), .int .i64 kd, .int .i64 op, .bool fr, .int .i64 xn, .int .i64 xp], .slice A ns.length c] U fun e w' => ∃ v, e = .returned v ∧ CmNew U.heap.size w' ((⟨wd, kd, op, fr, xn, xp⟩ : Shp).made ns) v ∧ Fr Nob U w') :=
              fun U hU hle => made_any ⟨wd, kd, op, fr, xn, xp⟩ A c ns U (hI.new hU) hSl (by have := HSz.out; omega) hnc hx1 hle
            obtain ⟨ft, hft⟩ : ∃ ft, (⟨wd, kd, op, fr, xn, xp⟩ : Shp).fits ns.length = ft := ⟨_, rfl⟩
            rw [hft] at HFt
            have HFit := Lib.hid hft
            unfold Shp.v at HFt
            dsimp only at HFt
            clear hft hI hSl hnl
            gi_wp2_with fail
            refine ⟨trivial, (((callsIn_wide (n := 3)).2 HFt.out).inRound l).mono ?_⟩
            rintro e V1 ⟨rfl, hf1⟩
            have HF1 := Lib.hid hf1
            have x0 := (HF1.out.cell (p := ⟨Bx, 0, none⟩) hbz (fun h => h)).trans x0
            have x1 := (HF1.out.cell (p := ⟨Bx, 1, none⟩) hbz (fun h => h)).trans x1
            have x2 := (HF1.out.cell (p := ⟨Bx, 2, none⟩) hbz (fun h => h)).trans x2
            have x3 := (HF1.out.cell (p := ⟨Bx, 3, none⟩) hbz (fun h => h)).trans x3
            have x4 := (HF1.out.cell (p := ⟨Bx, 4, none⟩) hbz (fun h => h)).trans x4
            have x5 := (HF1.out.cell (p := ⟨Bx, 5, none⟩) hbz (fun h => h)).trans x5
            have hbz := Nat.lt_of_lt_of_le hbz HF1.out.size
            clear hf1 HFt
            cases ft with
            | false =>
              gi_wp2
              exact ⟨keepsFrom_fr (HFV.out.trans HF1.out) (fun _ _ h => h), pre, ⟨_, hxm⟩, rfl, hI2, HW, .inl ⟨rfl, fun ns' e => (by rw [HNs.out] at e; injection e with e; subst e; exact HFit.out), (hI1.out.trans HFV.out).trans HF1.out⟩⟩
            | true =>
              have hle : xn ≤ ns.length := by
                have := HFit.out
                unfold Shp.fits at this
                dsimp only at this
                split at this
                · have := of_decide_eq_true this; omega
                · have := of_decide_eq_true this; omega
              have HMd' := Lib.hid (HMd.out V1 HF1.out hle)
              clear hle HMd
              gi_wp2_with fail
              refine ⟨trivial, (((callsIn_wide (n := 3)).2 HMd'.out).inRound l).mono ?_⟩
              rintro e V2 ⟨v, rfl, ⟨Bl, m1, hv, hm1, hp1, hg1⟩, hf2⟩
              have HFV2 := Lib.hid (((HFV.out).trans HF1.out).trans hf2)
              obtain ⟨M, hM⟩ : ∃ M, (⟨wd, kd, op, fr, xn, xp⟩ : Shp).made ns = M := ⟨_, rfl⟩
              rw [hM] at hv hm1 hp1 hg1
              have HM := Lib.hid hM
              obtain ⟨k1, o1, a1, b1, f1, L1, ⟨p1, p2⟩, ⟨q1, q2⟩, n1⟩ := M
              unfold Cm.v at hv
              dsimp only at hv hm1 hp1 hg1
              subst hv
              have hb2 := HB2.out.fr (hI1.out.trans HFV2.out) (fun h => h)
              have hb3 := HB3.out.fr (hI1.out.trans HFV2.out) (fun h => h)
              have e0 := hb2.cell 0
              have e1 := hb2.cell 1
              have e2 := hb2.cell 2
              have e3 := hb2.cell 3
              have e4 := hb2.cell 4
              have e5 := hb2.cell 5
              have e6 := hb2.cell 6
              have e7 := hb2.cell 7
              have e8 := hb2.cell 8
              have e9 := hb2.cell 9
              have e10 := hb2.cell 10
              have g0 := hb3.cell 0
              have hbz2 := hb2.lt
              have hbz3 := hb3.lt
              have fe0 := hb2.frozen 0
              have fe1 := hb2.frozen 1
              have fe2 := hb2.frozen 2
              have fe3 := hb2.frozen 3
              have fe4 := hb2.frozen 4
              have fe5 := hb2.frozen 5
              have fe6 := hb2.frozen 6
              have fe7 := hb2.frozen 7
              have fe8 := hb2.frozen 8
              have fe9 := hb2.frozen 9
              have fe10 := hb2.frozen 10
              have fg0 := hb3.frozen 0
              simp only [List.getElem?_toArray, List.getElem?_cons_zero, List.getElem?_cons_succ] at e0 e1 e2 e3 e4 e5 e6 e7 e8 e9 e10 g0
              have HE : Hid (Blk ((((((((((((V2.setCell ⟨B, 0, none⟩ (.int .i64 k1)).setCell ⟨B, 1, none⟩ (.int .i64 o1)).setCell ⟨B, 2, none⟩ (.int .i64 a1)).setCell ⟨B, 3, none⟩ (.int .i64 b1)).setCell ⟨B, 4, none⟩ (.bool f1)).setCell ⟨B, 5, none⟩ (.slice Bl L1.length m1)).setCell ⟨B, 6, none⟩ (.int .i64 p1)).setCell ⟨B, 7, none⟩ (.int .i64 p2)).setCell ⟨B, 8, none⟩ (.int .i64 q1)).setCell ⟨B, 9, none⟩ (.int .i64 q2)).setCell ⟨B, 10, none⟩ (.int .i64 n1)).setCell ⟨B + 1, 0, none⟩ (.int .i64 0)) B 32 #[.int .i64 k1, .int .i64 o1, .int .i64 a1, .int .i64 b1, .bool f1, .slice Bl L1.length m1, .int .i64 p1, .int .i64 p2, .int .i64 q1, .int .i64 q2, .int .i64 n1]) := (blk_put11 hb2 (.int .i64 k1) (.int .i64 o1) (.int .i64 a1) (.int .i64 b1) (.bool f1) (.slice Bl L1.length m1) (.int .i64 p1) (.int .i64 p2) (.int .i64 q1) (.int .i64 q2) (.int .i64 n1)).far (p := ⟨B + 1, 0, none⟩) (by dsimp only; omega) _
              have HFE : Hid (Fr (fun x => x = B ∨ x = B + 1) V2 ((((((((((((V2.setCell ⟨B, 0, none⟩ (.int .i64 k1)).setCell ⟨B, 1, none⟩ (.int .i64 o1)).setCell ⟨B, 2, none⟩ (.int .i64 a1)).setCell ⟨B, 3, none⟩ (.int .i64 b1)).setCell ⟨B, 4, none⟩ (.bool f1)).setCell ⟨B, 5, none⟩ (.slice Bl L1.length m1)).setCell ⟨B, 6, none⟩ (.int .i64 p1)).setCell ⟨B, 7, none⟩ (.int .i64 p2)).setCell ⟨B, 8, none⟩ (.int .i64 q1)).setCell ⟨B, 9, none⟩ (.int .i64 q2)).setCell ⟨B, 10, none⟩ (.int .i64 n1)).setCell ⟨B + 1, 0, none⟩ (.int .i64 0))) := fr_set1 (fr_set1 (fr_set1 (fr_set1 (fr_set1 (fr_set1 (fr_set1 (fr_set1 (fr_set1 (fr_set1 (fr_set1 (fr_set1 (Fr.refl (fun x => x = B ∨ x = B + 1) V2) B 0 (.inl rfl) (.int .i64 k1)) B 1 (.inl rfl) (.int .i64 o1)) B 2 (.inl rfl) (.int .i64 a1)) B 3 (.inl rfl) (.int .i64 b1)) B 4 (.inl rfl) (.bool f1)) B 5 (.inl rfl) (.slice Bl L1.length m1)) B 6 (.inl rfl) (.int .i64 p1)) B 7 (.inl rfl) (.int .i64 p2)) B 8 (.inl rfl) (.int .i64 q1)) B 9 (.inl rfl) (.int .i64 q2)) B 10 (.inl rfl) (.int .i64 n1)) (B + 1) 0 (.inr rfl) (.int .i64 0)
              have hb3' := hb3.far (p := ⟨B, 0, none⟩) (by dsimp only; omega) (.int .i64 k1)
              have HFE0 : Hid (Fr (fun x => x = B) V2 (((((((((((V2.setCell ⟨B, 0, none⟩ (.int .i64 k1)).setCell ⟨B, 1, none⟩ (.int .i64 o1)).setCell ⟨B, 2, none⟩ (.int .i64 a1)).setCell ⟨B, 3, none⟩ (.int .i64 b1)).setCell ⟨B, 4, none⟩ (.bool f1)).setCell ⟨B, 5, none⟩ (.slice Bl L1.length m1)).setCell ⟨B, 6, none⟩ (.int .i64 p1)).setCell ⟨B, 7, none⟩ (.int .i64 p2)).setCell ⟨B, 8, none⟩ (.int .i64 q1)).setCell ⟨B, 9, none⟩ (.int .i64 q2)).setCell ⟨B, 10, none⟩ (.int .i64 n1))) := (fr_set1 (fr_set1 (fr_set1 (fr_set1 (fr_set1 (fr_set1 (fr_set1 (fr_set1 (fr_set1 (fr_set1 (fr_set1 (Fr.refl (fun x => x = B) V2) B 0 rfl (.int .i64 k1)) B 1 rfl (.int .i64 o1)) B 2 rfl (.int .i64 a1)) B 3 rfl (.int .i64 b1)) B 4 rfl (.bool f1)) B 5 rfl (.slice Bl L1.length m1)) B 6 rfl (.int .i64 p1)) B 7 rfl (.int .i64 p2)) B 8 rfl (.int .i64 q1)) B 9 rfl (.int .i64 q2)) B 10 rfl (.int .i64 n1))
              have HE3 : Hid (Blk ((((((((((((V2.setCell ⟨B, 0, none⟩ (.int .i64 k1)).setCell ⟨B, 1, none⟩ (.int .i64 o1)).setCell ⟨B, 2, none⟩ (.int .i64 a1)).setCell ⟨B, 3, none⟩ (.int .i64 b1)).setCell ⟨B, 4, none⟩ (.bool f1)).setCell ⟨B, 5, none⟩ (.slice Bl L1.length m1)).setCell ⟨B, 6, none⟩ (.int .i64 p1)).setCell ⟨B, 7, none⟩ (.int .i64 p2)).setCell ⟨B, 8, none⟩ (.int .i64 q1)).setCell ⟨B, 9, none⟩ (.int .i64 q2)).setCell ⟨B, 10, none⟩ (.int .i64 n1)).setCell ⟨B + 1, 0, none⟩ (.int .i64 0)) (B + 1) 33 #[.int .i64 0]) := (hb3.fr HFE0.out (by omega)).set_ 0 _
              have HPt := Lib.hid hp1
              have HG1 := Lib.hid hg1
              have hBV1 : B + 1 < V1.heap.size := (HB3.out.fr ((hI1.out.trans HFV.out).trans HF1.out) (fun h => h)).lt
              clear hb2 hb3 hb3' hM hp1 hf2 hg1
              gi_wp2
              refine ⟨keepsFrom_fr ((HFV2.out.mono (fun _ _ h => h.elim)).trans HFE.out) (fun k hk => by omega), pre, ⟨_, hxm⟩, rfl, hI2, HW, .inr ⟨rfl, ns, HNs, HFit, ((hI1.out.trans HFV2.out).mono (fun _ _ h => h.elim)).trans HFE.out, _, rfl, HE, HE3, ?_⟩⟩
              rw [HM.out]
              refine ⟨Bl, m1, rfl, hm1, fun h0 => ?_⟩
              obtain ⟨gl, ol, rfl, hc⟩ := HPt.out h0
              have hge := HG1.out _ rfl h0
              dsimp only at hge
              exact ⟨gl, ol, rfl, fun j p hj => ⟨(HFE.out.cell (cell_lt (hc j p hj).1) (by dsimp only; omega)).trans (hc j p hj).1, (HFE.out.cell (cell_lt (hc j p hj).2) (by dsimp only; omega)).trans (hc j p hj).2⟩⟩
      · have hcmp : ((tx wd).toList == (tx w0).toList) = false := by rw [beq_tx']; exact decide_eq_false hw
        have HW := Lib.hid hw
        clear hw
        gi_wp2
        have hS : Fr Nob W W.drew := (Fr.refl Nob W).drew
        refine RgI.begin (Fr Nob W) [] (by kernel_rfl) ?_
        refine RgI.op 0 (some 16) hS (v := ?v0n) (a' := ?a0n) (hy := fun wz hwz => ?h0n) (ha := ?b0n) (h := ?_)
        case h0n => (have hq := Nat.lt_of_lt_of_le hbz hwz.size; go_simp; try with_reducible rfl)
        case b0n => (simp only [Act.put, List.setIfInBounds_toArray, List.set_cons_zero, List.set_cons_succ]; rfl)
        refine RgI.op 1 (some 17) hS (v := (.string (tx wd))) (a' := ?a1n) (hy := fun wz hwz => ?h1n) (ha := ?b1n) (h := ?_)
        case h1n => (have hq := Nat.lt_of_lt_of_le hbz hwz.size; have cx := (hwz.cell (p := ⟨Bx, 0, none⟩) hbz (fun h => h)).trans x0; go_simp; try with_reducible rfl)
        case b1n => (simp only [Act.put, List.setIfInBounds_toArray, List.set_cons_zero, List.set_cons_succ]; rfl)
        refine RgI.op 2 (some 18) hS (v := (.slice (some ⟨g, 0, none⟩) N N)) (a' := ?a2n) (hy := fun wz hwz => ?h2n) (ha := ?b2n) (h := ?_)
        case h2n => (have hq := Nat.lt_of_lt_of_le hb4z hwz.size; have cx := (hwz.cell (p := ⟨B4, 0, none⟩) hb4z (fun h => h)).trans v4; go_simp; try with_reducible rfl)
        case b2n => (simp only [Act.put, List.setIfInBounds_toArray, List.set_cons_zero, List.set_cons_succ]; rfl)
        refine RgI.op 3 (some 19) hS (v := ?v3n) (a' := ?a3n) (hy := fun wz hwz => ?h3n) (ha := ?b3n) (h := ?_)
        case h3n => (have hq : 0 < N := hN1; go_simp; try with_reducible rfl)
        case b3n => (simp only [Act.put, List.setIfInBounds_toArray, List.set_cons_zero, List.set_cons_succ]; rfl)
        refine RgI.op 4 (some 20) hS (v := (.string (tx w0))) (a' := ?a4n) (hy := fun wz hwz => ?h4n) (ha := ?b4n) (h := ?_)
        case h4n => (have hq := Nat.lt_of_lt_of_le hgz hwz.size; have cx := (hwz.cell (p := ⟨g, 0, none⟩) hgz (fun h => h)).trans s0; go_simp; try with_reducible rfl)
        case b4n => (simp only [Act.put, List.setIfInBounds_toArray, List.set_cons_zero, List.set_cons_succ]; rfl)
        refine RgI.op 5 (some 21) hS (v := (.bool true)) (a' := ?a5n) (hy := fun wz hwz => ?h5n) (ha := ?b5n) (h := ?_)
        case h5n => (go_simp; try with_reducible rfl)
        case b5n => (simp only [Act.put, List.setIfInBounds_toArray, List.set_cons_zero, List.set_cons_succ]; rfl)
        refine RgI.done _ (h := ?_)
        gi_wp2
        exact ⟨keepsFrom_fr hS (fun _ _ h => h), hS.below hI1.out.size (fun _ h => h.elim), hI1.out.trans hS, fun y hy => (by rcases List.mem_append.1 hy with h | h; exact hI2.out y h; rw [List.mem_singleton.1 h]; exact HW.out)⟩
    case done =>
      rintro D ys W hD rfl ⟨hI1, hI2⟩ hK
      have hfd : tbl.find? (fun x => decide (x.word = (w0 :: r0).headD [])) = none := List.find?_eq_none.2 (fun x hx h => hI2.out ⟨x, hx⟩ (List.mem_attach _ _) (of_decide_eq_true h))
      have HP3 : Hid (P = ({ kind := 0 }, 3)) := (HPn.out _).2 (by rw [hfd])
      have hIF := hI1.out
      clear hfd hI1 hI2
      have hb2 := HB2.out.fr hIF (fun h => h)
      have hb3 := HB3.out.fr hIF (fun h => h)
      have e0 := hb2.cell 0
      have e1 := hb2.cell 1
      have e2 := hb2.cell 2
      have e3 := hb2.cell 3
      have e4 := hb2.cell 4
      have e5 := hb2.cell 5
      have e6 := hb2.cell 6
      have e7 := hb2.cell 7
      have e8 := hb2.cell 8
      have e9 := hb2.cell 9
      have e10 := hb2.cell 10
      have fe0 := hb2.frozen 0
      have fe1 := hb2.frozen 1
      have fe2 := hb2.frozen 2
      have fe3 := hb2.frozen 3
      have fe4 := hb2.frozen 4
      have fe5 := hb2.frozen 5
      have fe6 := hb2.frozen 6
      have fe7 := hb2.frozen 7
      have fe8 := hb2.frozen 8
      have fe9 := hb2.frozen 9
      have fe10 := hb2.frozen 10
      have g0 := hb3.cell 0
      have fg0 := hb3.frozen 0
      have hbz2 := hb2.lt
      have hbz3 := hb3.lt
      simp only [List.getElem?_toArray, List.getElem?_cons_zero, List.getElem?_cons_succ] at e0 e1 e2 e3 e4 e5 e6 e7 e8 e9 e10 g0
      have HE : Hid (Blk ((((((((((((W.setCell ⟨B, 0, none⟩ (.int .i64 0)).setCell ⟨B, 1, none⟩ (.int .i64 0)).setCell ⟨B, 2, none⟩ (.int .i64 0)).setCell ⟨B, 3, none⟩ (.int .i64 0)).setCell ⟨B, 4, none⟩ (.bool false)).setCell ⟨B, 5, none⟩ (.slice none 0 0)).setCell ⟨B, 6, none⟩ (.int .i64 0)).setCell ⟨B, 7, none⟩ (.int .i64 0)).setCell ⟨B, 8, none⟩ (.int .i64 0)).setCell ⟨B, 9, none⟩ (.int .i64 0)).setCell ⟨B, 10, none⟩ (.int .i64 0)).setCell ⟨B + 1, 0, none⟩ (.int .i64 3)) B 32 #[.int .i64 0, .int .i64 0, .int .i64 0, .int .i64 0, .bool false, .slice none 0 0, .int .i64 0, .int .i64 0, .int .i64 0, .int .i64 0, .int .i64 0]) := (blk_put11 hb2 (.int .i64 0) (.int .i64 0) (.int .i64 0) (.int .i64 0) (.bool false) (.slice none 0 0) (.int .i64 0) (.int .i64 0) (.int .i64 0) (.int .i64 0) (.int .i64 0)).far (p := ⟨B + 1, 0, none⟩) (by dsimp only; omega) _
      have HFE0 : Hid (Fr (fun x => x = B) W (((((((((((W.setCell ⟨B, 0, none⟩ (.int .i64 0)).setCell ⟨B, 1, none⟩ (.int .i64 0)).setCell ⟨B, 2, none⟩ (.int .i64 0)).setCell ⟨B, 3, none⟩ (.int .i64 0)).setCell ⟨B, 4, none⟩ (.bool false)).setCell ⟨B, 5, none⟩ (.slice none 0 0)).setCell ⟨B, 6, none⟩ (.int .i64 0)).setCell ⟨B, 7, none⟩ (.int .i64 0)).setCell ⟨B, 8, none⟩ (.int .i64 0)).setCell ⟨B, 9, none⟩ (.int .i64 0)).setCell ⟨B, 10, none⟩ (.int .i64 0))) := (fr_set1 (fr_set1 (fr_set1 (fr_set1 (fr_set1 (fr_set1 (fr_set1 (fr_set1 (fr_set1 (fr_set1 (fr_set1 (Fr.refl (fun x => x = B) W) B 0 rfl (.int .i64 0)) B 1 rfl (.int .i64 0)) B 2 rfl (.int .i64 0)) B 3 rfl (.int .i64 0)) B 4 rfl (.bool false)) B 5 rfl (.slice none 0 0)) B 6 rfl (.int .i64 0)) B 7 rfl (.int .i64 0)) B 8 rfl (.int .i64 0)) B 9 rfl (.int .i64 0)) B 10 rfl (.int .i64 0))
      have HE3 : Hid (Blk ((((((((((((W.setCell ⟨B, 0, none⟩ (.int .i64 0)).setCell ⟨B, 1, none⟩ (.int .i64 0)).setCell ⟨B, 2, none⟩ (.int .i64 0)).setCell ⟨B, 3, none⟩ (.int .i64 0)).setCell ⟨B, 4, none⟩ (.bool false)).setCell ⟨B, 5, none⟩ (.slice none 0 0)).setCell ⟨B, 6, none⟩ (.int .i64 0)).setCell ⟨B, 7, none⟩ (.int .i64 0)).setCell ⟨B, 8, none⟩ (.int .i64 0)).setCell ⟨B, 9, none⟩ (.int .i64 0)).setCell ⟨B, 10, none⟩ (.int .i64 0)).setCell ⟨B + 1, 0, none⟩ (.int .i64 3)) (B + 1) 33 #[.int .i64 3]) := (hb3.fr HFE0.out (by omega)).set_ 0 _
      have HFE : Hid (Fr (fun x => x = B ∨ x = B + 1) W ((((((((((((W.setCell ⟨B, 0, none⟩ (.int .i64 0)).setCell ⟨B, 1, none⟩ (.int .i64 0)).setCell ⟨B, 2, none⟩ (.int .i64 0)).setCell ⟨B, 3, none⟩ (.int .i64 0)).setCell ⟨B, 4, none⟩ (.bool false)).setCell ⟨B, 5, none⟩ (.slice none 0 0)).setCell ⟨B, 6, none⟩ (.int .i64 0)).setCell ⟨B, 7, none⟩ (.int .i64 0)).setCell ⟨B, 8, none⟩ (.int .i64 0)).setCell ⟨B, 9, none⟩ (.int .i64 0)).setCell ⟨B, 10, none⟩ (.int .i64 0)).setCell ⟨B + 1, 0, none⟩ (.int .i64 3))) := fr_set1 (fr_set1 (fr_set1 (fr_set1 (fr_set1 (fr_set1 (fr_set1 (fr_set1 (fr_set1 (fr_set1 (fr_set1 (fr_set1 (Fr.refl (fun x => x = B ∨ x = B + 1) W) B 0 (.inl rfl) (.int .i64 0)) B 1 (.inl rfl) (.int .i64 0)) B 2 (.inl rfl) (.int .i64 0)) B 3 (.inl rfl) (.int .i64 0)) B 4 (.inl rfl) (.bool false)) B 5 (.inl rfl) (.slice none 0 0)) B 6 (.inl rfl) (.int .i64 0)) B 7 (.inl rfl) (.int .i64 0)) B 8 (.inl rfl) (.int .i64 0)) B 9 (.inl rfl) (.int .i64 0)) B 10 (.inl rfl) (.int .i64 0)) (B + 1) 0 (.inr rfl) (.int .i64 3)
      have HIF := Lib.hid hIF
      have HD := Lib.hid hK
      clear hb2 hb3 hK hIF
      go_wp2
      have hD1 : ((((((((((((W.setCell ⟨B, 0, none⟩ (.int .i64 0)).setCell ⟨B, 1, none⟩ (.int .i64 0)).setCell ⟨B, 2, none⟩ (.int .i64 0)).setCell ⟨B, 3, none⟩ (.int .i64 0)).setCell ⟨B, 4, none⟩ (.bool false)).setCell ⟨B, 5, none⟩ (.slice none 0 0)).setCell ⟨B, 6, none⟩ (.int .i64 0)).setCell ⟨B, 7, none⟩ (.int .i64 0)).setCell ⟨B, 8, none⟩ (.int .i64 0)).setCell ⟨B, 9, none⟩ (.int .i64 0)).setCell ⟨B, 10, none⟩ (.int .i64 0)).setCell ⟨B + 1, 0, none⟩ (.int .i64 3)).heap[D]? = some (.deferred (some [])) := (HFE.out.block D (Array.getElem?_eq_some_iff.1 HD.out).1 (by omega)).trans HD.out
      have hg5 := grownBy_putObj' ((((((((((((W.setCell ⟨B, 0, none⟩ (.int .i64 0)).setCell ⟨B, 1, none⟩ (.int .i64 0)).setCell ⟨B, 2, none⟩ (.int .i64 0)).setCell ⟨B, 3, none⟩ (.int .i64 0)).setCell ⟨B, 4, none⟩ (.bool false)).setCell ⟨B, 5, none⟩ (.slice none 0 0)).setCell ⟨B, 6, none⟩ (.int .i64 0)).setCell ⟨B, 7, none⟩ (.int .i64 0)).setCell ⟨B, 8, none⟩ (.int .i64 0)).setCell ⟨B, 9, none⟩ (.int .i64 0)).setCell ⟨B, 10, none⟩ (.int .i64 0)).setCell ⟨B + 1, 0, none⟩ (.int .i64 3)) D (.deferred none)
      refine ⟨by simp, .inl ⟨_, _, rfl, run_takeDeferred hD1, ?_⟩⟩
      refine ⟨_, cmd_results rfl _ _ _ _ _ _ _ _ rfl rfl (HE.out.grown hg5 (fun e => by injection e with e; omega)) (HE3.out.grown hg5 (fun e => by injection e with e; omega)) rfl, ?_⟩
      rw [HP3.out]
      refine ⟨_, rfl, ⟨none, 0, rfl, Nat.le_refl _, fun h => absurd h (by simp)⟩, ?_⟩
      exact ((((HF0.out.trans HIF.out).mono (G := fun x => x = B ∨ x = B + 1) (fun _ _ h => h.elim)).trans HFE.out).grown hg5 (fun k e => by injection e with e; subst e; exact .inl (by have := HF0.out.size; omega))).mono (fun i hi h => by have := HB.out; omega)
    case stop =>
      rintro D c pre W hD hpre ⟨q, x, e1, e2, e3, hcase⟩ hK
      have hfd : tbl.find? (fun x => decide (x.word = (w0 :: r0).headD [])) = some x.1 := find_at _ (e1.out ▸ hpre) (fun y hy => decide_eq_false (e2.out y hy)) (decide_eq_true e3.out)
      have HFd := Lib.hid hfd
      clear hfd hpre e1 e2 e3
      rcases hcase with ⟨rfl, hft, hI1⟩ | ⟨rfl, ns, hns, hft, hI1, cs, hcs, hb2, hb3, hcm⟩
      · have HP3 : Hid (P = ({ kind := 0 }, 3)) := (HPn.out _).2 (by
          rw [HFd.out]
          show (match numsC r0 with | none => _ | some ns => _) = _
          cases hns : numsC r0 with
          | none => rfl
          | some ns => simp only [hft.out ns hns]; rfl)
        have hIF := hI1.out
        clear hft hI1
        refine wpIn_exit ?_
        have hb2 := HB2.out.fr hIF (fun h => h)
        have hb3 := HB3.out.fr hIF (fun h => h)
        have e0 := hb2.cell 0
        have e1 := hb2.cell 1
        have e2 := hb2.cell 2
        have e3 := hb2.cell 3
        have e4 := hb2.cell 4
        have e5 := hb2.cell 5
        have e6 := hb2.cell 6
        have e7 := hb2.cell 7
        have e8 := hb2.cell 8
        have e9 := hb2.cell 9
        have e10 := hb2.cell 10
        have fe0 := hb2.frozen 0
        have fe1 := hb2.frozen 1
        have fe2 := hb2.frozen 2
        have fe3 := hb2.frozen 3
        have fe4 := hb2.frozen 4
        have fe5 := hb2.frozen 5
        have fe6 := hb2.frozen 6
        have fe7 := hb2.frozen 7
        have fe8 := hb2.frozen 8
        have fe9 := hb2.frozen 9
        have fe10 := hb2.frozen 10
        have g0 := hb3.cell 0
        have fg0 := hb3.frozen 0
        have hbz2 := hb2.lt
        have hbz3 := hb3.lt
        simp only [List.getElem?_toArray, List.getElem?_cons_zero, List.getElem?_cons_succ] at e0 e1 e2 e3 e4 e5 e6 e7 e8 e9 e10 g0
        have HE : Hid (Blk ((((((((((((W.setCell ⟨B, 0, none⟩ (.int .i64 0)).setCell ⟨B, 1, none⟩ (.int .i64 0)).setCell ⟨B, 2, none⟩ (.int .i64 0)).setCell ⟨B, 3, none⟩ (.int .i64 0)).setCell ⟨B, 4, none⟩ (.bool false)).setCell ⟨B, 5, none⟩ (.slice none 0 0)).setCell ⟨B, 6, none⟩ (.int .i64 0)).setCell ⟨B, 7, none⟩ (.int .i64 0)).setCell ⟨B, 8, none⟩ (.int .i64 0)).setCell ⟨B, 9, none⟩ (.int .i64 0)).setCell ⟨B, 10, none⟩ (.int .i64 0)).setCell ⟨B + 1, 0, none⟩ (.int .i64 3)) B 32 #[.int .i64 0, .int .i64 0, .int .i64 0, .int .i64 0, .bool false, .slice none 0 0, .int .i64 0, .int .i64 0, .int .i64 0, .int .i64 0, .int .i64 0]) := (blk_put11 hb2 (.int .i64 0) (.int .i64 0) (.int .i64 0) (.int .i64 0) (.bool false) (.slice none 0 0) (.int .i64 0) (.int .i64 0) (.int .i64 0) (.int .i64 0) (.int .i64 0)).far (p := ⟨B + 1, 0, none⟩) (by dsimp only; omega) _
        have HFE0 : Hid (Fr (fun x => x = B) W (((((((((((W.setCell ⟨B, 0, none⟩ (.int .i64 0)).setCell ⟨B, 1, none⟩ (.int .i64 0)).setCell ⟨B, 2, none⟩ (.int .i64 0)).setCell ⟨B, 3, none⟩ (.int .i64 0)).setCell ⟨B, 4, none⟩ (.bool false)).setCell ⟨B, 5, none⟩ (.slice none 0 0)).setCell ⟨B, 6, none⟩ (.int .i64 0)).setCell ⟨B, 7, none⟩ (.int .i64 0)).setCell ⟨B, 8, none⟩ (.int .i64 0)).setCell ⟨B, 9, none⟩ (.int .i64 0)).setCell ⟨B, 10, none⟩ (.int .i64 0))) := (fr_set1 (fr_set1 (fr_set1 (fr_set1 (fr_set1 (fr_set1 (fr_set1 (fr_set1 (fr_set1 (fr_set1 (fr_set1 (Fr.refl (fun x => x = B) W) B 0 rfl (.int .i64 0)) B 1 rfl (.int .i64 0)) B 2 rfl (.int .i64 0)) B 3 rfl (.int .i64 0)) B 4 rfl (.bool false)) B 5 rfl (.slice none 0 0)) B 6 rfl (.int .i64 0)) B 7 rfl (.int .i64 0)) B 8 rfl (.int .i64 0)) B 9 rfl (.int .i64 0)) B 10 rfl (.int .i64 0))
        have HE3 : Hid (Blk ((((((((((((W.setCell ⟨B, 0, none⟩ (.int .i64 0)).setCell ⟨B, 1, none⟩ (.int .i64 0)).setCell ⟨B, 2, none⟩ (.int .i64 0)).setCell ⟨B, 3, none⟩ (.int .i64 0)).setCell ⟨B, 4, none⟩ (.bool false)).setCell ⟨B, 5, none⟩ (.slice none 0 0)).setCell ⟨B, 6, none⟩ (.int .i64 0)).setCell ⟨B, 7, none⟩ (.int .i64 0)).setCell ⟨B, 8, none⟩ (.int .i64 0)).setCell ⟨B, 9, none⟩ (.int .i64 0)).setCell ⟨B, 10, none⟩ (.int .i64 0)).setCell ⟨B + 1, 0, none⟩ (.int .i64 3)) (B + 1) 33 #[.int .i64 3]) := (hb3.fr HFE0.out (by omega)).set_ 0 _
        have HFE : Hid (Fr (fun x => x = B ∨ x = B + 1) W ((((((((((((W.setCell ⟨B, 0, none⟩ (.int .i64 0)).setCell ⟨B, 1, none⟩ (.int .i64 0)).setCell ⟨B, 2, none⟩ (.int .i64 0)).setCell ⟨B, 3, none⟩ (.int .i64 0)).setCell ⟨B, 4, none⟩ (.bool false)).setCell ⟨B, 5, none⟩ (.slice none 0 0)).setCell ⟨B, 6, none⟩ (.int .i64 0)).setCell ⟨B, 7, none⟩ (.int .i64 0)).setCell ⟨B, 8, none⟩ (.int .i64 0)).setCell ⟨B, 9, none⟩ (.int .i64 0)).setCell ⟨B, 10, none⟩ (.int .i64 0)).setCell ⟨B + 1, 0, none⟩ (.int .i64 3))) := fr_set1 (fr_set1 (fr_set1 (fr_set1 (fr_set1 (fr_set1 (fr_set1 (fr_set1 (fr_set1 (fr_set1 (fr_set1 (fr_set1 (Fr.refl (fun x => x = B ∨ x = B + 1) W) B 0 (.inl rfl) (.int .i64 0)) B 1 (.inl rfl) (.int .i64 0)) B 2 (.inl rfl) (.int .i64 0)) B 3 (.inl rfl) (.int .i64 0)) B 4 (.inl rfl) (.bool false)) B 5 (.inl rfl) (.slice none 0 0)) B 6 (.inl rfl) (.int .i64 0)) B 7 (.inl rfl) (.int .i64 0)) B 8 (.inl rfl) (.int .i64 0)) B 9 (.inl rfl) (.int .i64 0)) B 10 (.inl rfl) (.int .i64 0)) (B + 1) 0 (.inr rfl) (.int .i64 3)
        have HIF := Lib.hid hIF
        have HD := Lib.hid hK
        clear hb2 hb3 hK hIF
        go_wp2
        have hD1 : ((((((((((((W.setCell ⟨B, 0, none⟩ (.int .i64 0)).setCell ⟨B, 1, none⟩ (.int .i64 0)).setCell ⟨B, 2, none⟩ (.int .i64 0)).setCell ⟨B, 3, none⟩ (.int .i64 0)).setCell ⟨B, 4, none⟩ (.bool false)).setCell ⟨B, 5, none⟩ (.slice none 0 0)).setCell ⟨B, 6, none⟩ (.int .i64 0)).setCell ⟨B, 7, none⟩ (.int .i64 0)).setCell ⟨B, 8, none⟩ (.int .i64 0)).setCell ⟨B, 9, none⟩ (.int .i64 0)).setCell ⟨B, 10, none⟩ (.int .i64 0)).setCell ⟨B + 1, 0, none⟩ (.int .i64 3)).heap[D]? = some (.deferred (some [])) := (HFE.out.block D (Array.getElem?_eq_some_iff.1 HD.out).1 (by omega)).trans HD.out
        have hg5 := grownBy_putObj' ((((((((((((W.setCell ⟨B, 0, none⟩ (.int .i64 0)).setCell ⟨B, 1, none⟩ (.int .i64 0)).setCell ⟨B, 2, none⟩ (.int .i64 0)).setCell ⟨B, 3, none⟩ (.int .i64 0)).setCell ⟨B, 4, none⟩ (.bool false)).setCell ⟨B, 5, none⟩ (.slice none 0 0)).setCell ⟨B, 6, none⟩ (.int .i64 0)).setCell ⟨B, 7, none⟩ (.int .i64 0)).setCell ⟨B, 8, none⟩ (.int .i64 0)).setCell ⟨B, 9, none⟩ (.int .i64 0)).setCell ⟨B, 10, none⟩ (.int .i64 0)).setCell ⟨B + 1, 0, none⟩ (.int .i64 3)) D (.deferred none)
        refine ⟨by simp, .inl ⟨_, _, rfl, run_takeDeferred hD1, ?_⟩⟩
        refine ⟨_, cmd_results rfl _ _ _ _ _ _ _ _ rfl rfl (HE.out.grown hg5 (fun e => by injection e with e; omega)) (HE3.out.grown hg5 (fun e => by injection e with e; omega)) rfl, ?_⟩
        rw [HP3.out]
        refine ⟨_, rfl, ⟨none, 0, rfl, Nat.le_refl _, fun h => absurd h (by simp)⟩, ?_⟩
        exact ((((HF0.out.trans HIF.out).mono (G := fun x => x = B ∨ x = B + 1) (fun _ _ h => h.elim)).trans HFE.out).grown hg5 (fun k e => by injection e with e; subst e; exact .inl (by have := HF0.out.size; omega))).mono (fun i hi h => by have := HB.out; omega)
      · have HP3 : Hid (P = (x.1.made ns, 0)) := (HPn.out _).2 (by
          rw [HFd.out]
          show (match numsC r0 with | none => _ | some ns => _) = _
          rw [hns.out]
          simp only [hft.out]
          rfl)
        have hz5 : B + 1 < W.heap.size := hb3.out.lt
        have hg5 := grownBy_putObj' W D (.deferred none)
        have hcm5 := hcm.out.grown hg5 (fun r e => by injection e with e; subst e; exact ⟨_, hK, rfl⟩)
        gi_wp2
        refine ⟨by simp, .inl ⟨_, _, rfl, run_takeDeferred hK, ?_⟩⟩
        refine ⟨_, cmd_results rfl _ _ _ _ _ _ _ _ rfl rfl (hb2.out.grown hg5 (fun e => by injection e with e; omega)) (hb3.out.grown hg5 (fun e => by injection e with e; omega)) hcs, ?_⟩
        rw [HP3.out]
        refine ⟨_, rfl, hcm5, ?_⟩
        exact (((HF0.out.mono (G := fun x => x = B ∨ x = B + 1) (fun _ _ h => h.elim)).trans hI1.out).grown hg5 (fun k e => by injection e with e; subst e; exact .inl (by have := HF0.out.size; omega))).mono (fun i hi h => by have := HB.out; omega)
end Go.Proofs.YtidohbhcjnmmeaaDoor
