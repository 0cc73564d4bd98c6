/-
  What New does for the document's disk.
-/
import Derived.Test.YtieiopeblleheaaRef3
namespace Go.Proofs.Ytieiopeblleheaa
set_option linter.unusedSimpArgs false
set_option linter.unusedVariables false
open Go.RowKit

theorem wpOp_value {P : Program} {ops : Array Oper} {Q : Exit → Act → World → Prop} {K : Act → World → Prop} {i : Nat} {o : Oper} (d : Option Tmp) {v : Value} {a a' : Act} {w w' : World} (hi : ops[i]? = some o) (hd : o.dst = d)
    (hw : Region.wanted o (yielded ops a.tmps) = true) (hrun : (execOp a.eval o).run P w = .ok (.value v) w') (ha : a.put d v = a') (h : K a' w') : wpOp P ops Q i K a w := by
  unfold wpOp
  rw [hi]
  dsimp only
  rw [if_pos hw]
  refine .inl ?_
  unfold Oper.wp
  rw [hrun]
  rw [← ha] at h
  rw [← hd] at h
  exact h
theorem wpOp_call {P : Program} {ops : Array Oper} {Q : Exit → Act → World → Prop} {K : Act → World → Prop} {i : Nat} {o : Oper} {a : Act} {w : World} {f : FuncId} {args : Array Value} {R : Ending → World → Prop} (hi : ops[i]? = some o)
    (hw : Region.wanted o (yielded ops a.tmps) = true) (hrun : (execOp a.eval o).run P w = .ok (.enter f args) w) (hcall : Calls P f args w R)
    (h : ∀ e w', R e w' → ∃ v, e = .returned v ∧ K (a.put o.dst v) w') : wpOp P ops Q i K a w := by
  unfold wpOp
  rw [hi]
  dsimp only
  rw [if_pos hw]
  refine .inl ?_
  unfold Oper.wp
  rw [hrun]
  refine hcall.mono ?_
  intro e w' hR
  obtain ⟨v, rfl, h2⟩ := h e w' hR
  exact h2
theorem execOp_append {P : Program} {o : Oper} {a : Act} {w w' : World} {s x : Operand} {t : TypeId} {v : Value} (ho : o.op = .call { callee := .builtin .append, args := #[s, x], argTypes := #[t, t] })
    (h : (Builtin.append_ #[t, t] o.type #[a.eval s, a.eval x]).run P w = .ok v w') : (execOp a.eval o).run P w = .ok (.value v) w' := by
  unfold execOp
  simp only [ho, resolve, invoke, builtin, Sem.run_bind, Sem.run_pure, Result.andThen_ok, List.map_toArray, List.map_cons, List.map_nil, h]

/-- The same where the region is the last of a block. -/
theorem wp_region_quietly' {P : Program} {id : Nat} {ops : Array Oper} {Q : Exit → Act → World → Prop} {a : Act} {w : World} (S : World → Prop) (hm : P.follows .mixedOrders = true)
    (h : wpAnyH P .any ops (OnlyNormal (fun a w => Q .normal a w)) S ops.size (Array.replicate ops.size false) a w.drew) : (Code.region id ops true).wp P Q a w :=
  wp_mono (wp_region_held hm h) (by intro e a w h; cases e <;> first | exact h | exact h.elim)

theorem info_string : (Try.prog.info? 9).map (fun i => (i.zero, i.size, i.bytes)) = some (some (.string ⟨#[]⟩), 1, 16) := by kernel_rfl

theorem RefNew_bad (n : Int) (w : World) (h : n < 8 ∨ 65536 < n) : Calls Try.prog 24 #[.int .i64 n] w fun e w' => e = .returned (.tuple #[.pointer none, .bool false]) ∧ w = w' := by
  rcases (by omega : n < 8 ∨ (¬ n < 8 ∧ 65536 < n)) with h | ⟨h, h2⟩
  all_goals
    go_enter Try.func24, Try.ntmps24
    go_wp2
    go_ret2
    exact ⟨rfl, rfl⟩

/-- The document's disk while it is made. -/
structure RefMid (w wr : World) (q k : Nat) (s1 : Value) : Prop where
  blk : Blk wr q 87 #[s1, .slice none 0 0, .int .i64 0, .int .i64 (-1), .bool false]
  own : wr.ownsRow w.heap.size 9 1 s1 k (strCells (List.replicate k nought))
  fr : Fr Nob w wr
  q : w.heap.size ≤ q

set_option maxHeartbeats 2000000 in
set_option maxRecDepth 100000 in
theorem RefNew_good (n : Nat) (w : World) (h1 : 8 ≤ n) (h2 : n ≤ 65536) : Calls Try.prog 24 #[.int .i64 n] w fun e w' =>
    ∃ q, e = .returned (.tuple #[.pointer (some ⟨q, 0, none⟩), .bool true]) ∧ w.heap.size ≤ q ∧ RefOk (fun b => w.heap.size ≤ b ∧ b < w'.heap.size) w' q (DS.new n) ∧ Fr Nob w w' := by
  obtain ⟨i0, hi0, hz0, hz1, hz2⟩ := info_parts info_string
  go_enter Try.func24, Try.ntmps24
  go_wp2
  have HM : Hid (RefMid w (w.alloc (.cells #[.slice none 0 0, .slice none 0 0, .int .i64 0, .int .i64 (-1), .bool false] 87)) w.heap.size 0 (.slice none 0 0)) :=
    ⟨Blk.new w _ _, World.ownsRow_nil _ _ _ _, (Fr.refl _ w).alloc _, Nat.le_refl _⟩
  obtain ⟨q, hq⟩ : ∃ q, w.heap.size = q := ⟨_, rfl⟩
  have HQ : Hid (w.heap.size ≤ q) := Nat.le_of_eq hq
  obtain ⟨w1, hw1⟩ : ∃ w1, w.alloc (.cells #[.slice none 0 0, .slice none 0 0, .int .i64 0, .int .i64 (-1), .bool false] 87) = w1 := ⟨_, rfl⟩
  rw [hw1, hq] at HM
  rw [hw1, hq]
  clear hw1 hq
  go_loopw [5] (fun i wr => ∃ (k : Nat) (s1 : Value), k ≤ n ∧ i = .int .i64 k ∧ Hid (RefMid w wr q k s1)) (fun i _ => n - (intOf i).toNat)
  case atStart => exact ⟨0, _, by omega, rfl, HM⟩
  case round =>
    clear HM
    obtain ⟨k, s1, hk, rfl, hM⟩ := hrel
    have hqr := hM.out.blk.lt
    by_cases hlt : k < n
    · go_wp2
      have c1 : Hid (Blk wr.drew q 87 _) := hM.out.blk.drew
      have hsz : wr.drew.heap.size = wr.heap.size := rfl
      refine wp_region_quietly' (fun W => Fr Nob w W ∧ q < W.heap.size) (by kernel_rfl) ?_
      have hS : Fr Nob w wr.drew ∧ q < wr.drew.heap.size := ⟨hM.out.fr.drew, hqr⟩
      refine wpAnyH_op (i := 0) (some 19) (v := ?v0) (a' := ?a0) rfl rfl (by kernel_rfl) (by kernel_rfl) (by kernel_rfl) (fun _ _ _ h => h) rfl (fun wz hwz => ?h0) ?b0 hS ?_
      case h0 => (go_simp; try with_reducible rfl)
      case b0 => (simp only [Act.put, List.setIfInBounds_toArray, List.set_cons_zero, List.set_cons_succ]; rfl)
      refine wpAnyH_op (i := 1) (some 20) (v := ?v1) (a' := ?a1) rfl rfl (by kernel_rfl) (by kernel_rfl) (by kernel_rfl) (fun _ _ _ h => h) rfl (fun wz hwz => ?h1) ?b1 hS ?_
      case h1 => (go_simp; try with_reducible rfl)
      case b1 => (simp only [Act.put, List.setIfInBounds_toArray, List.set_cons_zero, List.set_cons_succ]; rfl)
      refine wpAnyH_op (i := 2) (some 21) (v := ?v2) (a' := ?a2) rfl rfl (by kernel_rfl) (by kernel_rfl) (by kernel_rfl) (fun _ _ _ h => h) rfl (fun wz hwz => ?h2) ?b2 hS ?_
      case h2 => (have hq1 := hwz.2; go_simp; try with_reducible rfl)
      case b2 => (simp only [Act.put, List.setIfInBounds_toArray, List.set_cons_zero, List.set_cons_succ]; rfl)
      refine wpAnyH_op (i := 3) (some 22) (v := ?v3) (a' := ?a3) rfl rfl (by kernel_rfl) (by kernel_rfl) (by kernel_rfl) (fun _ _ _ h => h) rfl (fun wz hwz => ?h3) ?b3 hS ?_
      case h3 => (go_simp; try with_reducible rfl)
      case b3 => (simp only [Act.put, List.setIfInBounds_toArray, List.set_cons_zero, List.set_cons_succ]; rfl)
      refine wpAnyH_all (rs := [4, 5]) (by kernel_rfl) (by simp) ?_
      intro j hj
      rcases (by simpa using hj : j = 4 ∨ j = 5) with rfl | rfl
      · have b4 := c1.out.cell 0
        simp only [List.getElem?_toArray, List.getElem?_cons_zero] at b4
        refine wpOp_value (some 23) (v := s1) (a' := ?a4p) rfl rfl rfl ?h4p ?b4p ⟨hS, ?_⟩
        case h4p => (go_simp; try with_reducible rfl)
        case b4p => (simp only [Act.put, List.setIfInBounds_toArray, List.set_cons_zero, List.set_cons_succ]; rfl)
        refine wpAnyH_call (i := 5) rfl (by kernel_rfl) rfl ?run5p (Nought_any _) ?_
        case run5p => go_simp
        rintro e wc ⟨rfl, hfc⟩
        have HFc : Hid (Fr Nob wr wc) := (Fr.refl Nob wr).drew.trans hfc
        have HBc := Lib.hid (hM.out.blk.fr HFc.out (fun h => h))
        have hSc : Fr Nob w wc ∧ q < wc.heap.size := ⟨hM.out.fr.trans HFc.out, by have := HFc.out.size; omega⟩
        clear hfc
        refine ⟨_, rfl, hSc, ?_⟩
        refine wpAnyH_at (some 24) (a' := ?a5p) rfl ?b5p ?_
        case b5p => (simp only [Act.put, List.setIfInBounds_toArray, List.set_cons_zero, List.set_cons_succ]; rfl)
        have hOx : Hid ((wc.alloc (.cells #[.string ⟨nought.toArray⟩] 9)).ownsRow w.heap.size 9 1 s1 k (strCells (List.replicate k nought))) := (own_fr hM.out.own HFc.out (fun _ _ h => h)).alloc _
        have hNx : Hid (∀ j u, [strv nought][j]? = some u → (wc.alloc (.cells #[.string ⟨nought.toArray⟩] 9)).cell? ((⟨wc.heap.size, 0, none⟩ : Addr).add j) = some u) := by
          intro j u hu
          exact World.news_of_block (Blk.new wc 9 #[.string ⟨nought.toArray⟩]) j u (by simpa [strv] using hu)
        have hzW := HFc.out.size
        obtain ⟨v', w7, hrun7, hown7, hg7, hn7, hat7⟩ := run_append_own_at (P := Try.prog) (wc.alloc (.cells #[.string ⟨nought.toArray⟩] 9)) w.heap.size 65 65 9 i0 (.string ⟨#[]⟩) 1 16 Try.underlying65 hi0 hz0 hz1 hz2 rfl (by decide) s1 k (strCells (List.replicate k nought)) hOx.out ⟨wc.heap.size, 0, none⟩ 1 1 [strv nought] rfl hNx.out (by simp [strv, Value.oneCell']) (by unfold maxLen; omega) (by omega) (by have := hM.out.fr.size; simp; omega)
        have HR7 := Lib.hid hrun7
        have HG7 := Lib.hid hg7
        have hown8 : w7.ownsRow w.heap.size 9 1 v' (k + 1) (strCells (List.replicate (k + 1) nought)) := by
          rw [List.replicate_succ']
          simpa [strCells] using hown7
        have HO7 := Lib.hid hown8
        obtain ⟨g7, cap7, hv7, _, _⟩ := hown7.form (by omega)
        subst hv7
        clear hrun7 hown7 hg7 hn7 hat7 hown8
        have HS6 : Hid (Fr Nob w (wc.alloc (.cells #[.string ⟨nought.toArray⟩] 9)) ∧ q < (wc.alloc (.cells #[.string ⟨nought.toArray⟩] 9)).heap.size) := ⟨(hM.out.fr.trans HFc.out).alloc _, by simp; omega⟩
        have HS7 : Hid (Fr Nob w w7 ∧ q < w7.heap.size) := ⟨HS6.out.1.grown HG7.out (fun k hk => .inl (hM.out.own.lt k hk).1), Nat.lt_of_lt_of_le HS6.out.2 HG7.out.size⟩
        have HB7 : Hid (Blk w7 q 87 #[s1, .slice none 0 0, .int .i64 0, .int .i64 (-1), .bool false]) := (HBc.out.alloc _).grown HG7.out (Blk.own_ne hM.out.blk hM.out.own (by decide))
        refine wpAnyH_run (i := 6) (some 25) (v := ?v6p) (a' := ?a6p) rfl rfl (by kernel_rfl) rfl ?h6p ?b6p HS6.out ?_
        case h6p => (go_simp; try with_reducible rfl)
        case b6p => (simp only [Act.put, List.setIfInBounds_toArray, List.set_cons_zero, List.set_cons_succ]; rfl)
        refine wpAnyH_run (i := 7) (some 26) (v := .slice (some ⟨g7, 0, none⟩) (k + 1) cap7) (a' := ?a7p) rfl rfl (by kernel_rfl) rfl (execOp_append rfl HR7.out) ?b7p HS7.out ?_
        case b7p => (simp only [Act.put, List.setIfInBounds_toArray, List.set_cons_zero, List.set_cons_succ]; rfl)
        have hq7 := HS7.out.2
        refine wpAnyH_run (i := 8) (some 27) (v := ?v8p) (a' := ?a8p) rfl rfl (by kernel_rfl) rfl ?h8p ?b8p HS7.out ?_
        case h8p => (go_simp; try with_reducible rfl)
        case b8p => (simp only [Act.put, List.setIfInBounds_toArray, List.set_cons_zero, List.set_cons_succ]; rfl)
        refine wpAnyH_run (i := 9) (some 28) (v := ?v9p) (a' := ?a9p) rfl rfl (by kernel_rfl) rfl ?h9p ?b9p HS7.out ?_
        case h9p => (go_simp; try with_reducible rfl)
        case b9p => (simp only [Act.put, List.setIfInBounds_toArray, List.set_cons_zero, List.set_cons_succ]; rfl)
        have b0 := HB7.out.cell 0
        have q0 := HB7.out.frozen 0
        simp only [List.getElem?_toArray, List.getElem?_cons_zero] at b0
        refine wpAnyH_store (i := 10) (w' := ?w10p) rfl rfl (by kernel_rfl) rfl ?h10p ?s10p ?_
        case h10p => (go_simp; try with_reducible rfl)
        case s10p => exact ⟨HS7.out.1.setCell (p := ⟨q, 0, none⟩) (.inl HQ.out) _, by simpa [World.setCell] using HS7.out.2⟩
        refine wpAnyH_done (by kernel_rfl) ?_ _
        dsimp only [OnlyNormal]
        go_wp2
        go_roundw
        case rel => exact ⟨k + 1, _, by omega, by go_num, HB7.out.set_ 0 _, own_set HO7.out HB7.out (by decide), HS7.out.1.setCell (p := ⟨q, 0, none⟩) (.inl HQ.out) _, HQ.out⟩
        case measure => simp [intOf]; omega
      · refine wpOp_call rfl rfl ?run5q (Nought_any _) ?_
        case run5q => go_simp
        rintro e wc ⟨rfl, hfc⟩
        have HFc : Hid (Fr Nob wr wc) := (Fr.refl Nob wr).drew.trans hfc
        have HBc := Lib.hid (hM.out.blk.fr HFc.out (fun h => h))
        have hSc : Fr Nob w wc ∧ q < wc.heap.size := ⟨hM.out.fr.trans HFc.out, by have := HFc.out.size; omega⟩
        clear hfc
        refine ⟨_, rfl, hSc, ?_⟩
        refine wpAnyH_at (some 24) (a' := ?a5q) rfl ?b5q ?_
        case b5q => (simp only [Act.put, List.setIfInBounds_toArray, List.set_cons_zero, List.set_cons_succ]; rfl)
        refine wpAnyH_all (rs := [4, 6]) (by kernel_rfl) (by simp) ?_
        intro j hj
        rcases (by simpa using hj : j = 4 ∨ j = 6) with rfl | rfl
        · have b4 := HBc.out.cell 0
          simp only [List.getElem?_toArray, List.getElem?_cons_zero] at b4
          refine wpOp_value (some 23) (v := s1) (a' := ?a4q) rfl rfl rfl ?h4q ?b4q ⟨hSc, ?_⟩
          case h4q => (go_simp; try with_reducible rfl)
          case b4q => (simp only [Act.put, List.setIfInBounds_toArray, List.set_cons_zero, List.set_cons_succ]; rfl)
          have hOx : Hid ((wc.alloc (.cells #[.string ⟨nought.toArray⟩] 9)).ownsRow w.heap.size 9 1 s1 k (strCells (List.replicate k nought))) := (own_fr hM.out.own HFc.out (fun _ _ h => h)).alloc _
          have hNx : Hid (∀ j u, [strv nought][j]? = some u → (wc.alloc (.cells #[.string ⟨nought.toArray⟩] 9)).cell? ((⟨wc.heap.size, 0, none⟩ : Addr).add j) = some u) := by
            intro j u hu
            exact World.news_of_block (Blk.new wc 9 #[.string ⟨nought.toArray⟩]) j u (by simpa [strv] using hu)
          have hzW := HFc.out.size
          obtain ⟨v', w7, hrun7, hown7, hg7, hn7, hat7⟩ := run_append_own_at (P := Try.prog) (wc.alloc (.cells #[.string ⟨nought.toArray⟩] 9)) w.heap.size 65 65 9 i0 (.string ⟨#[]⟩) 1 16 Try.underlying65 hi0 hz0 hz1 hz2 rfl (by decide) s1 k (strCells (List.replicate k nought)) hOx.out ⟨wc.heap.size, 0, none⟩ 1 1 [strv nought] rfl hNx.out (by simp [strv, Value.oneCell']) (by unfold maxLen; omega) (by omega) (by have := hM.out.fr.size; simp; omega)
          have HR7 := Lib.hid hrun7
          have HG7 := Lib.hid hg7
          have hown8 : w7.ownsRow w.heap.size 9 1 v' (k + 1) (strCells (List.replicate (k + 1) nought)) := by
            rw [List.replicate_succ']
            simpa [strCells] using hown7
          have HO7 := Lib.hid hown8
          obtain ⟨g7, cap7, hv7, _, _⟩ := hown7.form (by omega)
          subst hv7
          clear hrun7 hown7 hg7 hn7 hat7 hown8
          have HS6 : Hid (Fr Nob w (wc.alloc (.cells #[.string ⟨nought.toArray⟩] 9)) ∧ q < (wc.alloc (.cells #[.string ⟨nought.toArray⟩] 9)).heap.size) := ⟨(hM.out.fr.trans HFc.out).alloc _, by simp; omega⟩
          have HS7 : Hid (Fr Nob w w7 ∧ q < w7.heap.size) := ⟨HS6.out.1.grown HG7.out (fun k hk => .inl (hM.out.own.lt k hk).1), Nat.lt_of_lt_of_le HS6.out.2 HG7.out.size⟩
          have HB7 : Hid (Blk w7 q 87 #[s1, .slice none 0 0, .int .i64 0, .int .i64 (-1), .bool false]) := (HBc.out.alloc _).grown HG7.out (Blk.own_ne hM.out.blk hM.out.own (by decide))
          refine wpAnyH_run (i := 6) (some 25) (v := ?v6q) (a' := ?a6q) rfl rfl (by kernel_rfl) rfl ?h6q ?b6q HS6.out ?_
          case h6q => (go_simp; try with_reducible rfl)
          case b6q => (simp only [Act.put, List.setIfInBounds_toArray, List.set_cons_zero, List.set_cons_succ]; rfl)
          refine wpAnyH_run (i := 7) (some 26) (v := .slice (some ⟨g7, 0, none⟩) (k + 1) cap7) (a' := ?a7q) rfl rfl (by kernel_rfl) rfl (execOp_append rfl HR7.out) ?b7q HS7.out ?_
          case b7q => (simp only [Act.put, List.setIfInBounds_toArray, List.set_cons_zero, List.set_cons_succ]; rfl)
          have hq7 := HS7.out.2
          refine wpAnyH_run (i := 8) (some 27) (v := ?v8q) (a' := ?a8q) rfl rfl (by kernel_rfl) rfl ?h8q ?b8q HS7.out ?_
          case h8q => (go_simp; try with_reducible rfl)
          case b8q => (simp only [Act.put, List.setIfInBounds_toArray, List.set_cons_zero, List.set_cons_succ]; rfl)
          refine wpAnyH_run (i := 9) (some 28) (v := ?v9q) (a' := ?a9q) rfl rfl (by kernel_rfl) rfl ?h9q ?b9q HS7.out ?_
          case h9q => (go_simp; try with_reducible rfl)
          case b9q => (simp only [Act.put, List.setIfInBounds_toArray, List.set_cons_zero, List.set_cons_succ]; rfl)
          have b0 := HB7.out.cell 0
          have q0 := HB7.out.frozen 0
          simp only [List.getElem?_toArray, List.getElem?_cons_zero] at b0
          refine wpAnyH_store (i := 10) (w' := ?w10q) rfl rfl (by kernel_rfl) rfl ?h10q ?s10q ?_
          case h10q => (go_simp; try with_reducible rfl)
          case s10q => exact ⟨HS7.out.1.setCell (p := ⟨q, 0, none⟩) (.inl HQ.out) _, by simpa [World.setCell] using HS7.out.2⟩
          refine wpAnyH_done (by kernel_rfl) ?_ _
          dsimp only [OnlyNormal]
          go_wp2
          go_roundw
          case rel => exact ⟨k + 1, _, by omega, by go_num, HB7.out.set_ 0 _, own_set HO7.out HB7.out (by decide), HS7.out.1.setCell (p := ⟨q, 0, none⟩) (.inl HQ.out) _, HQ.out⟩
          case measure => simp [intOf]; omega
        · have hOx : Hid ((wc.alloc (.cells #[.string ⟨nought.toArray⟩] 9)).ownsRow w.heap.size 9 1 s1 k (strCells (List.replicate k nought))) := (own_fr hM.out.own HFc.out (fun _ _ h => h)).alloc _
          have hNx : Hid (∀ j u, [strv nought][j]? = some u → (wc.alloc (.cells #[.string ⟨nought.toArray⟩] 9)).cell? ((⟨wc.heap.size, 0, none⟩ : Addr).add j) = some u) := by
            intro j u hu
            exact World.news_of_block (Blk.new wc 9 #[.string ⟨nought.toArray⟩]) j u (by simpa [strv] using hu)
          have hzW := HFc.out.size
          obtain ⟨v', w7, hrun7, hown7, hg7, hn7, hat7⟩ := run_append_own_at (P := Try.prog) (wc.alloc (.cells #[.string ⟨nought.toArray⟩] 9)) w.heap.size 65 65 9 i0 (.string ⟨#[]⟩) 1 16 Try.underlying65 hi0 hz0 hz1 hz2 rfl (by decide) s1 k (strCells (List.replicate k nought)) hOx.out ⟨wc.heap.size, 0, none⟩ 1 1 [strv nought] rfl hNx.out (by simp [strv, Value.oneCell']) (by unfold maxLen; omega) (by omega) (by have := hM.out.fr.size; simp; omega)
          have HR7 := Lib.hid hrun7
          have HG7 := Lib.hid hg7
          have hown8 : w7.ownsRow w.heap.size 9 1 v' (k + 1) (strCells (List.replicate (k + 1) nought)) := by
            rw [List.replicate_succ']
            simpa [strCells] using hown7
          have HO7 := Lib.hid hown8
          obtain ⟨g7, cap7, hv7, _, _⟩ := hown7.form (by omega)
          subst hv7
          clear hrun7 hown7 hg7 hn7 hat7 hown8
          have HS6 : Hid (Fr Nob w (wc.alloc (.cells #[.string ⟨nought.toArray⟩] 9)) ∧ q < (wc.alloc (.cells #[.string ⟨nought.toArray⟩] 9)).heap.size) := ⟨(hM.out.fr.trans HFc.out).alloc _, by simp; omega⟩
          have HS7 : Hid (Fr Nob w w7 ∧ q < w7.heap.size) := ⟨HS6.out.1.grown HG7.out (fun k hk => .inl (hM.out.own.lt k hk).1), Nat.lt_of_lt_of_le HS6.out.2 HG7.out.size⟩
          have HB7 : Hid (Blk w7 q 87 #[s1, .slice none 0 0, .int .i64 0, .int .i64 (-1), .bool false]) := (HBc.out.alloc _).grown HG7.out (Blk.own_ne hM.out.blk hM.out.own (by decide))
          have b4 := (HBc.out.alloc (.cells #[.string ⟨nought.toArray⟩] 9)).cell 0
          simp only [List.getElem?_toArray, List.getElem?_cons_zero] at b4
          refine wpOp_value (some 25) (v := .slice (some ⟨wc.heap.size, 0, none⟩) 1 1) (w' := wc.alloc (.cells #[.string ⟨nought.toArray⟩] 9)) (a' := ?a6r) rfl rfl rfl ?h6r ?b6r ⟨HS6.out, ?_⟩
          case h6r => (go_simp; try with_reducible rfl)
          case b6r => (simp only [Act.put, List.setIfInBounds_toArray, List.set_cons_zero, List.set_cons_succ]; rfl)
          refine wpAnyH_run (i := 4) (some 23) (v := s1) (a' := ?a4r) rfl rfl (by kernel_rfl) rfl ?h4r ?b4r HS6.out ?_
          case h4r => (go_simp; try with_reducible rfl)
          case b4r => (simp only [Act.put, List.setIfInBounds_toArray, List.set_cons_zero, List.set_cons_succ]; rfl)
          refine wpAnyH_run (i := 7) (some 26) (v := .slice (some ⟨g7, 0, none⟩) (k + 1) cap7) (a' := ?a7r) rfl rfl (by kernel_rfl) rfl (execOp_append rfl HR7.out) ?b7r HS7.out ?_
          case b7r => (simp only [Act.put, List.setIfInBounds_toArray, List.set_cons_zero, List.set_cons_succ]; rfl)
          have hq7 := HS7.out.2
          refine wpAnyH_run (i := 8) (some 27) (v := ?v8r) (a' := ?a8r) rfl rfl (by kernel_rfl) rfl ?h8r ?b8r HS7.out ?_
          case h8r => (go_simp; try with_reducible rfl)
          case b8r => (simp only [Act.put, List.setIfInBounds_toArray, List.set_cons_zero, List.set_cons_succ]; rfl)
          refine wpAnyH_run (i := 9) (some 28) (v := ?v9r) (a' := ?a9r) rfl rfl (by kernel_rfl) rfl ?h9r ?b9r HS7.out ?_
          case h9r => (go_simp; try with_reducible rfl)
          case b9r => (simp only [Act.put, List.setIfInBounds_toArray, List.set_cons_zero, List.set_cons_succ]; rfl)
          have b0 := HB7.out.cell 0
          have q0 := HB7.out.frozen 0
          simp only [List.getElem?_toArray, List.getElem?_cons_zero] at b0
          refine wpAnyH_store (i := 10) (w' := ?w10r) rfl rfl (by kernel_rfl) rfl ?h10r ?s10r ?_
          case h10r => (go_simp; try with_reducible rfl)
          case s10r => exact ⟨HS7.out.1.setCell (p := ⟨q, 0, none⟩) (.inl HQ.out) _, by simpa [World.setCell] using HS7.out.2⟩
          refine wpAnyH_done (by kernel_rfl) ?_ _
          dsimp only [OnlyNormal]
          go_wp2
          go_roundw
          case rel => exact ⟨k + 1, _, by omega, by go_num, HB7.out.set_ 0 _, own_set HO7.out HB7.out (by decide), HS7.out.1.setCell (p := ⟨q, 0, none⟩) (.inl HQ.out) _, HQ.out⟩
          case measure => simp [intOf]; omega
    · obtain rfl : k = n := by omega
      go_wp2
      go_ret2
      have hz := hM.out.fr.size
      refine ⟨q, rfl, HQ.out, ⟨s1, .slice none 0 0, ?_⟩, hM.out.fr⟩
      have hl : (DS.new k).last = List.replicate k nought := rfl
      exact {
        blk := hM.out.blk
        own1 := by
          rw [hl, List.length_replicate]
          exact own_base hM.out.own (fun _ _ => Nat.zero_le _)
        own2 := World.ownsRow_nil wr 0 89 2
        rq := ⟨HQ.out, hM.out.blk.lt⟩
        r1 := fun g hg => hM.out.own.lt g hg
        r2 := by simp [Value.ownBlock]
        lt := fun b hb => hb.2
        pos := by rw [hl, List.length_replicate]; omega
        small := by rw [hl, List.length_replicate]; omega
        wl := by intro x hx; cases hx
        fuse0 := by simp [DS.new]
        fuse1 := by simp [DS.new] }
end Go.Proofs.Ytieiopeblleheaa
