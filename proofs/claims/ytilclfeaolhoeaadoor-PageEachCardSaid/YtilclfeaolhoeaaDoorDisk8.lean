/-
  The closure that kept hands back, walked: it yields the chosen writes one by one.
-/
import Derived.Test.YtilclfeaolhoeaaDoorDisk7
namespace Go.Proofs.YtilclfeaolhoeaaDoor
set_option linter.unusedSimpArgs false
set_option linter.unusedVariables false
open Go.RowKit Go.Shelf
attribute [local go_sem] Oper.semAt_some

/-- A write that waits, fit to be stored again. -/
abbrev KW (n : Nat) := { x : Nat × Value // x.1 < n ∧ ∃ A m c, x.2 = .slice A m c }
def encK {n : Nat} (x : KW n) : Array Value := #[.agg #[.int .i64 x.1.1, x.1.2]]

/-- The ints of a slice that came in, none of them in block lb. -/
def Ints (lb : Nat) (w : World) (A : Option Addr) (keep : List Int) : Prop :=
  (∀ x ∈ keep, (Lit.int .i64 x).wf = true) ∧ (0 < keep.length → ∃ kb ko, A = some ⟨kb, ko, none⟩ ∧ kb ≠ lb ∧ ∀ j x, keep[j]? = some x → w.cell? ⟨kb, ko + j, none⟩ = some (.int .i64 x))
theorem Ints.kk {lb : Nat} {w w' : World} {A : Option Addr} {keep : List Int} (h : Ints lb w A keep) (hk : KK lb w w') : Ints lb w' A keep :=
  ⟨h.1, fun h0 => by
    obtain ⟨kb, ko, e, hne, hc⟩ := h.2 h0
    exact ⟨kb, ko, e, hne, fun j x hx => cell_kk (hc j x hx) hk hne⟩⟩
theorem Ints.at_ {lb : Nat} {w : World} {A : Option Addr} {keep : List Int} (h : Ints lb w A keep) (k : Nat) (hk : k < keep.length) : ∃ kb ko, A = some ⟨kb, ko, none⟩ ∧ kb ≠ lb ∧ w.cell? ⟨kb, ko + k, none⟩ = some (.int .i64 keep[k]) := by
  obtain ⟨kb, ko, e, hne, hc⟩ := h.2 (by omega)
  exact ⟨kb, ko, e, hne, hc k _ (List.getElem?_eq_getElem hk)⟩

set_option maxRecDepth 100000 in
set_option maxHeartbeats 2000000 in
theorem kept1_in (F : Fence) (n : Nat) (hfn : F.fn 33) (hro : F.round = none) (hn : 1 ≤ n) (l Bk Bd p lb N : Nat) (A : Option Addr) (c : Nat) (keep : List Int) (wv : Value) (ws : List (KW N)) (J Jx : List (KW N) → World → Prop)
    (hY : ∀ pre x W, J pre W → pre.length < ws.length → YieldAt F (n - 1) Tryd.prog l (encK x) W fun e W' =>
      (e = .returned (.bool true) ∧ J (pre ++ [x]) W' ∧ KK lb W W') ∨ (e = .returned (.bool false) ∧ Jx (pre ++ [x]) W'))
    (W : World) (hJ : AbidesFrom W.heap.size J) (hlb : lb < W.heap.size)
    (hBk : W.cell? ⟨Bk, 0, none⟩ = some (.slice A keep.length c)) (hBkl : Bk ≠ lb) (hBkz : Bk < W.heap.size)
    (hBd : W.cell? ⟨Bd, 0, none⟩ = some (.pointer (some ⟨p, 0, none⟩))) (hBdl : Bd ≠ lb) (hBdz : Bd < W.heap.size)
    (h2 : W.cell? ⟨p, 2, none⟩ = some wv) (hpl : p ≠ lb) (hpz : p < W.heap.size) (hreach : keep.length * 8 ≤ 140737488351232) (hwl : ws.length < 4000000000)
    (hkp : Ints lb W A keep) (hown : W.ownsRow 0 65 2 wv ws.length (waitCells (ws.map (·.1)))) (hwvl : ∀ g, wv.ownBlock = some g → g ≠ lb)
    (h0 : J [] W) :
    CallsIn F n Tryd.prog 33 #[.func (.yield l) #[] #[], .pointer (some ⟨Bk, 0, none⟩), .pointer (some ⟨Bd, 0, none⟩)] W fun e W' => (∃ v, e = .returned v) ∧
      ((∃ ys, ys = chosen keep ws ∧ J ys W') ∨ (∃ pre, pre <+: chosen keep ws ∧ Jx pre W')) := by
  have hmm := @run_makeMap Tryd.prog
  obtain ⟨wa, wc, rfl⟩ : ∃ A c, wv = .slice A ws.length c := by
    rcases hown.2 with ⟨e, e2⟩ | ⟨g, cap, cur, e, _⟩
    · rw [e2]; exact ⟨_, _, e⟩
    · exact ⟨_, _, e⟩
  have HKp := Lib.hid hkp
  have HOwn := Lib.hid hown
  have HWvl := Lib.hid hwvl
  have HY := Lib.hid hY
  have HJ := Lib.hid hJ
  have H0 := Lib.hid h0
  clear hkp hown hwvl hY hJ h0
  refine callsIn_of_wp Tryd.func33 rfl hfn ?_ hro
  simp only [Tryd.ntmps33, List.size_toArray, List.length_cons, List.length_nil, Nat.reduceAdd, Nat.reduceSub, Array.replicate_succ, Array.replicate_zero, List.push_toArray, List.append_toArray, List.nil_append, List.cons_append]
  gi_wp2
  gi_loopw [6, 12] (fun _ i wr => ∃ k : Nat, k ≤ keep.length ∧ i = .int .i64 k ∧ Hid (J [] wr) ∧ Hid (wr.ownsMap (H := Unit) Tryd.prog 3 (plainElem Tryd.prog 4) W.heap.size k (seenD (keep.take k))) ∧ Hid (Below W.heap.size W wr))
    (fun _ i _ => keep.length - (intOf i).toNat)
  case atStart =>
    exact ⟨0, Nat.zero_le _, rfl, HJ.out _ _ _ _ H0.out (World.grownBy_alloc W _ none) (fun r e => by cases e), World.ownsMap_made W _ _ _, (Below.refl _ W).alloc (Nat.le_refl _) _⟩
  case round =>
    obtain ⟨k, hk, rfl, hJs, hmp, hbl⟩ := hrel
    by_cases hlt : k < keep.length
    · obtain ⟨kb, ko, e, hkbl, hck⟩ := (Ints.at_ HKp.out k hlt)
      subst e
      have hck' : wr.cell? ⟨kb, ko + k, none⟩ = some (.int .i64 keep[k]) := (hbl.out.cell (p := ⟨kb, ko + k, none⟩) (cell_lt hck)).trans hck
      have hwf : (Lit.int .i64 keep[k]).wf = true := HKp.out.1 _ (List.getElem_mem hlt)
      have HSn : Hid (seenD (keep.take (k + 1)) = (seenD (keep.take k)).put (.int .i64 keep[k]) (.lit (.bool true))) := by
        show _ = _
        rw [← seenD_snoc, List.take_add_one, List.getElem?_eq_getElem hlt]; rfl
      have HWf := Lib.hid hwf
      clear hck hwf
      generalize keep[k] = x at *
      gi_wp2_with (gi_at_mapUpdate; refine wpListIn_mapUpdate_own _ rfl _ _ _ 70 rfl 3 4 (Maps.int_keyed Tryd.underlying3) Tryd.underlying70 _ W.heap.size k _ rfl hmp.out (by unfold maxLen; omega) _ _ _ rfl rfl (Maps.keyOf_int_mk Tryd.underlying3 HWf.out) _ [] (plainElem_bool Tryd.underlying4 true) ?_; intro w1 hown1 hgrow1; have HO1 := Lib.hid hown1; have HG1 := Lib.hid hgrow1; clear hown1 hgrow1)
      go_roundw
      case rel =>
        refine ⟨k + 1, by omega, by go_num, ?_, ?_, ?_⟩
        · obtain ⟨es, ck, hh, _⟩ := hmp.out
          exact HJ.out _ _ _ _ hJs.out HG1.out (fun r e => by cases e; exact ⟨Nat.le_refl _, _, hh, rfl⟩)
        · have := HO1.out
          rw [← HSn.out] at this
          exact this
        · exact hbl.out.grown HG1.out hbl.out.size (fun k e => by cases e; exact Nat.le_refl _)
      case measure => simp [intOf]; omega
    · obtain rfl : k = keep.length := by omega
      have hmp' := hmp.out
      rw [List.take_length] at hmp'
      have HM := Lib.hid hmp'
      clear hmp' hmp
      obtain ⟨W1, rfl⟩ : ∃ W1 : World, W1 = wr := ⟨_, rfl⟩
      have cBd : W1.cell? ⟨Bd, 0, none⟩ = some (.pointer (some ⟨p, 0, none⟩)) := (hbl.out.cell (p := ⟨Bd, 0, none⟩) hBdz).trans hBd
      have c2 : W1.cell? ⟨p, 2, none⟩ = some (.slice wa ws.length wc) := (hbl.out.cell (p := ⟨p, 2, none⟩) hpz).trans h2
      have HOr := Lib.hid (own_fr HOwn.out (Fr.of_belowB hbl.out) (fun g hg hge => by have := own_lt HOwn.out hg; omega))
      have hJ0 := hJs.out
      have HJ0 := Lib.hid hJ0
      have HBl := Lib.hid hbl.out
      have hzr : W.heap.size ≤ W1.heap.size := hbl.out.size
      clear hJ0 hbl
      gi_wp2
      gi_loopw [7, 8, 24] (fun _ _ i w2 => ∃ k : Nat, k ≤ ws.length ∧ i = .int .i64 k ∧ Hid (J (chosen keep (ws.take k)) w2) ∧ Hid (KK lb W1 w2))
        (fun _ _ i _ => ws.length - (intOf i).toNat)
      case atStart => exact ⟨0, Nat.zero_le _, rfl, HJ0.out, KK.refl _ _⟩
      case round =>
        obtain ⟨k, hk, rfl, hJk, hkk⟩ := hrel
        have hmp2 := map_kk HM.out hkk.out (by omega)
        by_cases hlt : k < ws.length
        · have hor := own_kk HOr.out hkk.out (fun g hg => HWvl.out g hg)
          obtain ⟨g, cap, e, _, hglt⟩ := hor.form (by omega)
          injection e with e1 e2 e3
          subst e1 e3
          clear e2
          have hx := waitCells_get (ws.map (·.1)) k (by simpa using hlt)
          have c0 := hor.cellAt (k * 2) (by omega)
          have c1 := hor.cellAt (k * 2 + 1) (by omega)
          rw [hx.1] at c0
          rw [hx.2] at c1
          have HCt := Lib.hid (chosen_take keep ws k hlt)
          have HLn : Hid ((chosen keep (ws.take k)).length < ws.length) := by
            show _ < _
            have := chosen_length keep (ws.take k)
            rw [List.length_take] at this
            omega
          simp only [List.getElem_map] at c0 c1
          clear hx hor
          generalize ws[k] = x at *
          obtain ⟨⟨xi, xv⟩, hxi, A2, n2, c2', hxv⟩ := x
          dsimp only at hxv
          subst hxv
          dsimp only at c0 c1
          have hmp3 : ((wr.alloc (.cells #[.int .i64 xi, .slice A2 n2 c2'] 65))).ownsMap (H := Unit) Tryd.prog 3 (plainElem Tryd.prog 4) W.heap.size keep.length (seenD keep) := hmp2.kept (World.grownBy_alloc _ _ none) (fun e => by cases e)
          have hlk := lookup_seen hmp3 k (wf_i64 (by omega) (by omega))
          have hJ2 : J (chosen keep (ws.take k)) (wr.alloc (.cells #[.int .i64 xi, .slice A2 n2 c2'] 65)) := HJ.out _ _ _ _ hJk.out (World.grownBy_alloc _ _ none) (fun r e => by cases e)
          have HJ2 := Lib.hid hJ2
          clear hmp3 hmp2 hJ2
          by_cases hin : (k : Int) ∈ keep
          · rw [decide_eq_true hin] at hlk
            have HIn := Lib.hid hin
            clear hin
            obtain ⟨fn, tmps, assign, body, hy, hR⟩ := HY.out _ ⟨(xi, .slice A2 n2 c2'), hxi, A2, n2, c2', rfl⟩ _ HJ2.out HLn.out
            dsimp only [encK] at hy
            gi_wp2
            refine hR.mono ?_
            rintro e W3 (⟨rfl, hJ3, hk3⟩ | ⟨rfl, hJx3⟩)
            · gi_wp2
              go_roundw
              case rel =>
                refine ⟨k + 1, by omega, by go_num, ?_, (hkk.out.alloc _).trans hk3⟩
                show J _ _
                rw [HCt.out, if_pos HIn.out]
                exact hJ3
              case measure => simp [intOf]; omega
            · gi_wp2
              refine bodyPost_ret (results_none rfl _ _ _) rfl ?_
              refine ⟨⟨_, rfl⟩, .inr ⟨_, ?_, hJx3⟩⟩
              have := chosen_prefix keep ws (k + 1)
              rwa [HCt.out, if_pos HIn.out] at this
          · rw [decide_eq_false hin] at hlk
            have HIn := Lib.hid hin
            clear hin
            gi_wp2
            refine ⟨fun _ h => (by cases h), ?_⟩
            gi_wp2
            go_roundw
            case rel =>
              refine ⟨k + 1, by omega, by go_num, ?_, hkk.out.alloc _⟩
              show J _ _
              rw [HCt.out, if_neg HIn.out, List.append_nil]
              exact HJ2.out
            case measure => simp [intOf]; omega
        · obtain rfl : k = ws.length := by omega
          gi_wp2
          go_end0
          refine ⟨⟨_, rfl⟩, .inl ⟨_, rfl, ?_⟩⟩
          have := hJk.out
          rwa [List.take_length] at this

/-- kept boxes the disk and the numbers, and hands back its closure. -/
theorem kept_in (F : Fence) (n : Nat) (h45 : F.fn 24) (hro : F.round = none) (p : Value) (A : Option Addr) (m c : Nat) (w : World) (hp : ∃ a, p = .pointer a) :
    CallsIn F n Tryd.prog 24 #[p, .slice A m c] w fun e w' => e = .returned (.func (.func 33) #[] #[.pointer (some ⟨w.heap.size + 1, 0, none⟩), .pointer (some ⟨w.heap.size, 0, none⟩)]) ∧
      w' = (w.alloc (.cells #[p] 23)).alloc (.cells #[.slice A m c] 45) := by
  obtain ⟨a, rfl⟩ := hp
  refine callsIn_of_wp Tryd.func24 rfl h45 ?_ hro
  simp only [Tryd.ntmps24, List.size_toArray, List.length_cons, List.length_nil, Nat.reduceAdd, Nat.reduceSub, Array.replicate_succ, Array.replicate_zero, List.push_toArray, List.append_toArray, List.nil_append, List.cons_append]
  gi_wp2
  go_ret
  exact ⟨rfl, rfl⟩
end Go.Proofs.YtilclfeaolhoeaaDoor
