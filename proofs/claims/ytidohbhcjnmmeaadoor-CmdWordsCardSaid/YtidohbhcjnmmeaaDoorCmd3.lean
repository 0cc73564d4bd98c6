/-
  Commands: made.
-/
import Derived.Test.YtidohbhcjnmmeaaDoorCmd2
namespace Go.Proofs.YtidohbhcjnmmeaaDoor
set_option linter.unusedSimpArgs false
set_option linter.unusedVariables false
open Go.RowKit

/-- A command. -/
structure Cm where
  kind : Int
  op : Int := 0
  a : Int := 0
  b : Int := 0
  fresh : Bool := false
  line : List (Int × Int) := []
  p : Int × Int := (0, 0)
  q : Int × Int := (0, 0)
  n : Int := 0
deriving DecidableEq
def Cm.v (c : Cm) (L : Value) : Value := .agg #[.int .i64 c.kind, .int .i64 c.op, .int .i64 c.a, .int .i64 c.b, .bool c.fresh, L, .int .i64 c.p.1, .int .i64 c.p.2, .int .i64 c.q.1, .int .i64 c.q.2, .int .i64 c.n]
/-- A command in memory: its line lies there. -/
def CmIn (w : World) (c : Cm) (v : Value) : Prop := ∃ B m, v = c.v (.slice B c.line.length m) ∧ c.line.length ≤ m ∧ PtsIn w B c.line
/-- It lies there, and its line is no older than n. -/
def CmNew (n : Nat) (w : World) (c : Cm) (v : Value) : Prop := ∃ B m, v = c.v (.slice B c.line.length m) ∧ c.line.length ≤ m ∧ PtsIn w B c.line ∧ ∀ a, B = some a → 0 < c.line.length → n ≤ a.block
theorem CmNew.cm {n : Nat} {w : World} {c : Cm} {v : Value} (h : CmNew n w c v) : CmIn w c v := by
  obtain ⟨B, m, e, hm, hp, _⟩ := h
  exact ⟨B, m, e, hm, hp⟩
theorem CmIn.new {w w' : World} {c : Cm} {v : Value} (h : CmIn w c v) (hf : Fr Nob w w') : CmIn w' c v := by
  obtain ⟨B, m, e, hm, hp⟩ := h
  exact ⟨B, m, e, hm, hp.new hf⟩
/-- made: the command of numbers. -/
def Shp.made (x : Shp) (l : List Int) : Cm :=
  if x.kind = 1 then { kind := 1, op := x.op, fresh := x.fresh, a := if 0 < x.n then l.getD 0 0 else 0, b := if 1 < x.n then l.getD 1 0 else 0, line := prs (l.drop x.n) }
  else { kind := x.kind, n := if 0 < x.n then l.getD 0 0 else 0, p := (prs (l.drop x.n)).getD 0 (0, 0), q := (prs (l.drop x.n)).getD 1 (0, 0) }
theorem I64In.drop {w : World} {g o : Nat} {l : List Int} (h : I64In w (some ⟨g, o, none⟩) l) (n : Nat) : I64In w (some ⟨g, o + n, none⟩) (l.drop n) := fun h0 => by
  rw [List.length_drop] at h0
  obtain ⟨g', o', e, hc⟩ := h (by omega)
  injection e with e
  injection e with e1 e2
  subst e1 e2
  exact ⟨g, o + n, rfl, fun j x hj => by rw [List.getElem?_drop] at hj; rw [Nat.add_assoc]; exact hc _ _ hj⟩

theorem points_at (A : Option Addr) (cp : Nat) (l : List Int) (n : Nat) (hn : l.length = n) (w : World) (h : I64In w A l) (hl : n ≤ 1000000) :
    Calls Tryd.prog 30 #[.slice A n cp] w fun e w' => ∃ B, e = .returned (.slice B (prs l).length (prs l).length) ∧ PtsIn w' B (prs l) ∧ (∀ a, B = some a → w.heap.size ≤ a.block) ∧ Fr Nob w w' := by
  subst hn
  exact points_any A cp l w h hl

/-- Where the memory of made stands: the shape, the result, the command. -/
structure MdS (w w' : World) (s : Nat) (x : Shp) (cs : Array Value) (ps : List (Int × Int)) (B : Option Addr) : Prop where
  sh : Blk w' s 54 #[.string (tx x.word), .int .i64 x.kind, .int .i64 x.op, .bool x.fresh, .int .i64 x.n, .int .i64 x.p]
  re : Blk w' (s + 1) 32 (#[.int .i64 0, .int .i64 0, .int .i64 0, .int .i64 0, .bool false, .slice none 0 0, .int .i64 0, .int .i64 0, .int .i64 0, .int .i64 0, .int .i64 0])
  cm : Blk w' (s + 1 + 1) 32 cs
  fr : Fr Nob w w'
  pt : PtsIn w' B ps
theorem MdS.set {w w' : World} {s : Nat} {x : Shp} {cs : Array Value} {ps : List (Int × Int)} {B : Option Addr} (h : MdS w w' s x cs ps B) (hs : w.heap.size ≤ s) (hb : ∀ a, B = some a → 0 < ps.length → a.block ≠ s + 1 + 1) (i : Nat) (u : Value) : MdS w (w'.setCell ⟨s + 1 + 1, i, none⟩ u) s x (cs.setIfInBounds i u) ps B := by
  refine ⟨h.sh.far (by show s ≠ s + 1 + 1; omega) u, h.re.far (by show s + 1 ≠ s + 1 + 1; omega) u, h.cm.set_ i u, h.fr.setCell (p := ⟨s + 1 + 1, i, none⟩) (.inl (by show w.heap.size ≤ s + 1 + 1; omega)) u, ?_⟩
  intro h0
  obtain ⟨g, o, rfl, hc⟩ := h.pt h0
  have hne := hb _ rfl h0
  have hf : Fr (fun b => b = s + 1 + 1) w' (w'.setCell ⟨s + 1 + 1, i, none⟩ u) := Fr.setCell (F := fun b => b = s + 1 + 1) (p := ⟨s + 1 + 1, i, none⟩) (Fr.refl _ _) (.inr rfl) u
  exact ⟨g, o, rfl, fun j p hp => ⟨(hf.cell (cell_lt (hc j p hp).1) hne).trans (hc j p hp).1, (hf.cell (cell_lt (hc j p hp).2) hne).trans (hc j p hp).2⟩⟩

theorem MdS.done {w w' W : World} {s : Nat} {x : Shp} {cs : Array Value} {ps : List (Int × Int)} {B : Option Addr} (h : MdS w w' s x cs ps B) (hs : w.heap.size ≤ s) (hb : ∀ a, B = some a → s + 1 + 1 < a.block) (hf : Fr (fun b => b = s + 1) w' W) : PtsIn W B ps ∧ Fr Nob w W := by
  refine ⟨?_, h.fr.step hf (fun i hi e => by omega)⟩
  intro h0
  obtain ⟨g, o, rfl, hc⟩ := h.pt h0
  have hne : ¬ g = s + 1 := by have h1 : s + 1 + 1 < g := hb _ rfl; omega
  exact ⟨g, o, rfl, fun j p hp => ⟨(hf.cell (cell_lt (hc j p hp).1) hne).trans (hc j p hp).1, (hf.cell (cell_lt (hc j p hp).2) hne).trans (hc j p hp).2⟩⟩
theorem blk_put11 {w : World} {g : Nat} {t : TypeId} {c0 c1 c2 c3 c4 c5 c6 c7 c8 c9 c10 : Value} (h : Blk w g t #[c0, c1, c2, c3, c4, c5, c6, c7, c8, c9, c10]) (v0 v1 v2 v3 v4 v5 v6 v7 v8 v9 v10 : Value) : Blk (((((((((((w.setCell ⟨g, 0, none⟩ v0).setCell ⟨g, 1, none⟩ v1).setCell ⟨g, 2, none⟩ v2).setCell ⟨g, 3, none⟩ v3).setCell ⟨g, 4, none⟩ v4).setCell ⟨g, 5, none⟩ v5).setCell ⟨g, 6, none⟩ v6).setCell ⟨g, 7, none⟩ v7).setCell ⟨g, 8, none⟩ v8).setCell ⟨g, 9, none⟩ v9).setCell ⟨g, 10, none⟩ v10) g t #[v0, v1, v2, v3, v4, v5, v6, v7, v8, v9, v10] := by
  have h0 := h.set_ 0 v0
  simp only [List.setIfInBounds_toArray, List.set_cons_zero, List.set_cons_succ] at h0
  have h1 := h0.set_ 1 v1
  simp only [List.setIfInBounds_toArray, List.set_cons_zero, List.set_cons_succ] at h1
  have h2 := h1.set_ 2 v2
  simp only [List.setIfInBounds_toArray, List.set_cons_zero, List.set_cons_succ] at h2
  have h3 := h2.set_ 3 v3
  simp only [List.setIfInBounds_toArray, List.set_cons_zero, List.set_cons_succ] at h3
  have h4 := h3.set_ 4 v4
  simp only [List.setIfInBounds_toArray, List.set_cons_zero, List.set_cons_succ] at h4
  have h5 := h4.set_ 5 v5
  simp only [List.setIfInBounds_toArray, List.set_cons_zero, List.set_cons_succ] at h5
  have h6 := h5.set_ 6 v6
  simp only [List.setIfInBounds_toArray, List.set_cons_zero, List.set_cons_succ] at h6
  have h7 := h6.set_ 7 v7
  simp only [List.setIfInBounds_toArray, List.set_cons_zero, List.set_cons_succ] at h7
  have h8 := h7.set_ 8 v8
  simp only [List.setIfInBounds_toArray, List.set_cons_zero, List.set_cons_succ] at h8
  have h9 := h8.set_ 9 v9
  simp only [List.setIfInBounds_toArray, List.set_cons_zero, List.set_cons_succ] at h9
  have h10 := h9.set_ 10 v10
  simp only [List.setIfInBounds_toArray, List.set_cons_zero, List.set_cons_succ] at h10
  exact h10
theorem fr_set1 {F : Nat → Prop} {w w' : World} (h : Fr F w w') (g i : Nat) (hg : F g) (u : Value) : Fr F w (w'.setCell ⟨g, i, none⟩ u) := h.setCell (p := ⟨g, i, none⟩) (.inr hg) u
theorem idx0 (a b : Value) (w : World) : (Instr.index 75 (.agg #[a, b]) (.int .i64 0)).run Tryd.prog w = .ok a w := by kernel_rfl
theorem idx1 (a b : Value) (w : World) : (Instr.index 75 (.agg #[a, b]) (.int .i64 1)).run Tryd.prog w = .ok b w := by kernel_rfl
theorem idp0 (a b : Value) (w : World) : (Instr.index 77 (.agg #[a, b]) (.int .i64 0)).run Tryd.prog w = .ok a w := by kernel_rfl
theorem idp1 (a b : Value) (w : World) : (Instr.index 77 (.agg #[a, b]) (.int .i64 1)).run Tryd.prog w = .ok b w := by kernel_rfl
theorem cmd_size : (Tryd.prog.info? 32).map (·.size) = some 11 := by kernel_rfl

set_option maxHeartbeats 1600000 in
set_option maxRecDepth 100000 in
theorem made_any (x : Shp) (A : Option Addr) (cp : Nat) (l : List Int) (w : World) (h : I64In w A l) (hA : Sl A l.length cp) (hl : l.length ≤ 1000000) (hc : l.length ≤ cp) (hx : x.n ≤ 2) (hn : x.n ≤ l.length) :
    Calls Tryd.prog 19 #[x.v, .slice A l.length cp] w fun e w' => ∃ v, e = .returned v ∧ CmNew w.heap.size w' (x.made l) v ∧ Fr Nob w w' := by
  have qL := len_i64s
  have qP := len_Ps
  have HMd : Hid (x.made l = if x.kind = 1 then { kind := 1, op := x.op, fresh := x.fresh, a := if 0 < x.n then l.getD 0 0 else 0, b := if 1 < x.n then l.getD 1 0 else 0, line := prs (l.drop x.n) } else { kind := x.kind, n := if 0 < x.n then l.getD 0 0 else 0, p := (prs (l.drop x.n)).getD 0 (0, 0), q := (prs (l.drop x.n)).getD 1 (0, 0) }) := rfl
  obtain ⟨M, hM⟩ : ∃ M, Shp.made x l = M := ⟨_, rfl⟩
  rw [hM] at HMd ⊢
  unfold Shp.v
  obtain ⟨wd, kd, op, fr, xn, xp⟩ := x
  dsimp only at hx hn HMd ⊢
  obtain ⟨N, hN⟩ : ∃ N, l.length = N := ⟨_, rfl⟩
  have HN := Lib.hid hN
  rw [hN] at hl hc hn hA ⊢
  have hdl : (l.drop xn).length = N - xn := by rw [List.length_drop, hN]
  have HDl := Lib.hid hdl
  have HIn := Lib.hid h
  have hnl : N - xn ≤ 1000000 := by omega
  obtain ⟨ps, hps⟩ : ∃ ps, prs (l.drop xn) = ps := ⟨_, rfl⟩
  have HPs := Lib.hid hps
  rw [hps] at HMd
  have HQ : Hid (∀ A cp W, I64In W A (l.drop xn) → Calls Tryd.prog 30 #[.slice A (N - xn) cp] W fun e w' => ∃ B, e = .returned (.slice B ps.length ps.length) ∧ PtsIn w' B ps ∧ (∀ a, B = some a → W.heap.size ≤ a.block) ∧ Fr Nob W w') := by
    intro A cp W hW
    have := points_at A cp (l.drop xn) (N - xn) HDl.out W hW hnl
    rwa [hps] at this
  clear h hN hM hdl hps
  have HLd : Hid (∀ k, k < xn → ∃ g x, A = some ⟨g, 0, none⟩ ∧ l.getD k 0 = x ∧ ∀ W, Fr Nob w W → W.cell? ⟨g, k, none⟩ = some (.int .i64 x)) := by
    intro k hk
    obtain ⟨g, o, e, hcc⟩ := HIn.out (by rw [HN.out]; omega)
    have hkl : k < l.length := by rw [HN.out]; omega
    have hg : o = 0 := by
      rcases hA with ⟨e0, _, _⟩ | ⟨g', e0⟩
      · rw [e0] at e; cases e
      · rw [e0] at e; injection e with e; injection e with _ e; exact e.symm
    subst hg
    have := hcc k _ (List.getElem?_eq_getElem hkl)
    rw [Nat.zero_add] at this
    refine ⟨g, l[k], e, by simp [List.getD, List.getElem?_eq_getElem hkl], fun W hW => (hW.cell (cell_lt this) (fun h => h)).trans this⟩
  have kn : (0 : Int) ≤ (xn : Int) := by omega
  have knN : (xn : Int) ≤ (N : Int) := by omega
  have HW0 : Hid (Fr Nob w (((w.alloc (.cells #[.string (tx wd), .int .i64 kd, .int .i64 op, .bool fr, .int .i64 xn, .int .i64 xp] 54)).alloc (.cells #[.int .i64 0, .int .i64 0, .int .i64 0, .int .i64 0, .bool false, .slice none 0 0, .int .i64 0, .int .i64 0, .int .i64 0, .int .i64 0, .int .i64 0] 32)).alloc (.cells #[.int .i64 kd, .int .i64 0, .int .i64 0, .int .i64 0, .bool false, .slice none 0 0, .int .i64 0, .int .i64 0, .int .i64 0, .int .i64 0, .int .i64 0] 32))) := (((Fr.refl _ w).alloc _).alloc _).alloc _
  have HB3 : Hid (∀ w1, Fr Nob (((w.alloc (.cells #[.string (tx wd), .int .i64 kd, .int .i64 op, .bool fr, .int .i64 xn, .int .i64 xp] 54)).alloc (.cells #[.int .i64 0, .int .i64 0, .int .i64 0, .int .i64 0, .bool false, .slice none 0 0, .int .i64 0, .int .i64 0, .int .i64 0, .int .i64 0, .int .i64 0] 32)).alloc (.cells #[.int .i64 kd, .int .i64 0, .int .i64 0, .int .i64 0, .bool false, .slice none 0 0, .int .i64 0, .int .i64 0, .int .i64 0, .int .i64 0, .int .i64 0] 32)) w1 →
      ∀ B, PtsIn w1 B ps → MdS w w1 w.heap.size ⟨wd, kd, op, fr, xn, xp⟩ #[.int .i64 kd, .int .i64 0, .int .i64 0, .int .i64 0, .bool false, .slice none 0 0, .int .i64 0, .int .i64 0, .int .i64 0, .int .i64 0, .int .i64 0] ps B) := by
    intro w1 hf B hB
    refine ⟨?_, ?_, ?_, HW0.out.trans hf, hB⟩
    · exact (((Blk.new w _ _).alloc _).alloc _).fr hf (fun h => h)
    · have := Blk.new (w.alloc (.cells #[.string (tx wd), .int .i64 kd, .int .i64 op, .bool fr, .int .i64 xn, .int .i64 xp] 54)) 32 #[.int .i64 0, .int .i64 0, .int .i64 0, .int .i64 0, .bool false, .slice none 0 0, .int .i64 0, .int .i64 0, .int .i64 0, .int .i64 0, .int .i64 0]
      rw [World.size_alloc] at this
      exact (this.alloc _).fr hf (fun h => h)
    · have := Blk.new ((w.alloc (.cells #[.string (tx wd), .int .i64 kd, .int .i64 op, .bool fr, .int .i64 xn, .int .i64 xp] 54)).alloc (.cells #[.int .i64 0, .int .i64 0, .int .i64 0, .int .i64 0, .bool false, .slice none 0 0, .int .i64 0, .int .i64 0, .int .i64 0, .int .i64 0, .int .i64 0] 32)) 32 #[.int .i64 kd, .int .i64 0, .int .i64 0, .int .i64 0, .bool false, .slice none 0 0, .int .i64 0, .int .i64 0, .int .i64 0, .int .i64 0, .int .i64 0]
      rw [World.size_alloc, World.size_alloc] at this
      exact this.fr hf (fun h => h)
  have HI1 : ∀ g, A = some ⟨g, 0, none⟩ → Hid (∀ W, Fr Nob w W → I64In W (some ⟨g, xn, none⟩) (l.drop xn)) := fun g hg W hW => by
    have := HIn.out.new hW
    rw [hg] at this
    have := this.drop xn
    rwa [Nat.zero_add] at this
  go_enter Tryd.func19, Tryd.ntmps19
  have HA1 : ∀ g, A = some ⟨g, 0, none⟩ → N - xn = 0 → I64In (((w.alloc (.cells #[.string (tx wd), .int .i64 kd, .int .i64 op, .bool fr, .int .i64 xn, .int .i64 xp] 54)).alloc (.cells #[.int .i64 0, .int .i64 0, .int .i64 0, .int .i64 0, .bool false, .slice none 0 0, .int .i64 0, .int .i64 0, .int .i64 0, .int .i64 0, .int .i64 0] 32)).alloc (.cells #[.int .i64 kd, .int .i64 0, .int .i64 0, .int .i64 0, .bool false, .slice none 0 0, .int .i64 0, .int .i64 0, .int .i64 0, .int .i64 0, .int .i64 0] 32)) (some ⟨g, 0, none⟩) (l.drop xn) := fun g _ h h0 => by have := HDl.out; omega
  have hps0 : ps.length ≤ 1000000 := by
    have h1 := prs_length (l.drop xn)
    have h2 := HDl.out
    rw [HPs.out] at h1
    omega
  rcases hA with ⟨rfl, h0, h1⟩ | ⟨g, rfl⟩
  · have HA0 := Lib.hid h0
    clear h0 h1
    go_wp2_with fail
    all_goals refine (HQ.out _ _ _ (fun h0 => by have := HDl.out; have := HA0.out; omega)).mono ?_
    all_goals
      rintro e w1 ⟨B, rfl, hB, hbb, hf1⟩
      have hst := HB3.out w1 hf1 B hB
      have HNl : Hid (∀ a, B = some a → w.heap.size + 1 + 1 < a.block) := fun a ha => by have := hbb a ha; simp at this; omega
      have HNe : Hid (∀ a, B = some a → 0 < ps.length → a.block ≠ w.heap.size + 1 + 1) := fun a ha _ => by have := HNl.out a ha; omega
      have hsl : w.heap.size + 1 + 1 < w1.heap.size := hst.cm.lt
      clear hB hbb hf1 HQ HB3 HW0
      obtain ⟨s, hs⟩ : ∃ s, w.heap.size = s := ⟨_, rfl⟩
      have HS := Lib.hid hs
      rw [hs] at hst HNe HNl hsl ⊢
      clear hs
      have HSt := Lib.hid hst
      clear hst
      by_cases hk : kd = 1
      · subst hk
        have b1 := HSt.out.sh.cell 1
        have b2 := HSt.out.sh.cell 2
        have b3 := HSt.out.sh.cell 3
        have b4 := HSt.out.sh.cell 4
        simp only [List.getElem?_toArray, List.getElem?_cons_zero, List.getElem?_cons_succ] at b1 b2 b3 b4
        have d1 := HSt.out.cm.cell 1
        have d2 := HSt.out.cm.cell 2
        have d3 := HSt.out.cm.cell 3
        have d4 := HSt.out.cm.cell 4
        have d5 := HSt.out.cm.cell 5
        simp only [List.getElem?_toArray, List.getElem?_cons_zero, List.getElem?_cons_succ] at d1 d2 d3 d4 d5
        have fd1 := HSt.out.cm.frozen 1
        have fd2 := HSt.out.cm.frozen 2
        have fd3 := HSt.out.cm.frozen 3
        have fd4 := HSt.out.cm.frozen 4
        have fd5 := HSt.out.cm.frozen 5
        have H1 := Lib.hid (((((HSt.out.set (by have := HS.out; omega) HNe.out 1 (.int .i64 op)).set (by have := HS.out; omega) HNe.out 2 (.int .i64 0)).set (by have := HS.out; omega) HNe.out 3 (.int .i64 0)).set (by have := HS.out; omega) HNe.out 4 (.bool fr)).set (by have := HS.out; omega) HNe.out 5 (.slice B ps.length ps.length))
        go_wp2
        go_loopw [34] (fun i wr => ∃ (k : Nat) (x y : Int), k ≤ 2 ∧ i = .int .i64 k ∧ Hid (x = if 0 < xn ∧ 0 < k then l.getD 0 0 else 0) ∧ Hid (y = if 1 < xn ∧ 1 < k then l.getD 1 0 else 0) ∧ Hid (MdS w wr s ⟨wd, 1, op, fr, xn, xp⟩ #[.int .i64 1, .int .i64 op, .int .i64 x, .int .i64 y, .bool fr, .slice B ps.length ps.length, .int .i64 0, .int .i64 0, .int .i64 0, .int .i64 0, .int .i64 0] ps B)) (fun i _ => 2 - (intOf i).toNat)
        case atStart => exact ⟨0, 0, 0, by omega, rfl, by simp [Hid], by simp [Hid], H1.out⟩
        case round =>
          have i0 := fun a b w => idx0 a b w
          have i1 := fun a b w => idx1 a b w
          obtain ⟨k, x, y, hk2, rfl, hx1, hy1, hm⟩ := hrel
          have hswr := hm.out.cm.lt
          have b4 := hm.out.sh.cell 4
          simp only [List.getElem?_toArray, List.getElem?_cons_zero, List.getElem?_cons_succ] at b4
          have hcase : k = 0 ∨ k = 1 ∨ k = 2 := by omega
          rcases hcase with rfl | rfl | rfl
          · by_cases hk0 : 0 < xn
            · obtain ⟨g', z, hA', hz, hW⟩ := HLd.out 0 hk0
              cases hA'
            · have kx : ¬ (0 : Int) < (xn : Int) := by omega
              go_wp2
              go_roundw
              case rel => exact ⟨1, x, y, by omega, by go_num, by have := hx1.out; simp [hk0] at this; simp [Hid, hk0, this], by have := hy1.out; simp at this; simp [Hid, this], hm.out⟩
              case measure => simp [intOf]
          · by_cases hk0 : 1 < xn
            · obtain ⟨g', z, hA', hz, hW⟩ := HLd.out 1 hk0
              cases hA'
            · have kx : ¬ (1 : Int) < (xn : Int) := by omega
              go_wp2
              go_roundw
              case rel => exact ⟨2, x, y, by omega, by go_num, by have := hx1.out; simp at this; simp [Hid, this], by have := hy1.out; simp [hk0] at this; simp [Hid, hk0, this], hm.out⟩
              case measure => simp [intOf]
          · have hxx : x = if 0 < xn then l.getD 0 0 else 0 := by have := hx1.out; simpa using this
            have hyy : y = if 1 < xn then l.getD 1 0 else 0 := by have := hy1.out; simpa using this
            have HM1 : Hid (M = { kind := 1, op := op, fresh := fr, a := x, b := y, line := ps }) := by rw [hxx, hyy]; have := HMd.out; simpa [Hid] using this
            clear hxx hyy hx1 hy1
            have d0 := hm.out.cm.cell 0
            have d1 := hm.out.cm.cell 1
            have d2 := hm.out.cm.cell 2
            have d3 := hm.out.cm.cell 3
            have d4 := hm.out.cm.cell 4
            have d5 := hm.out.cm.cell 5
            have d6 := hm.out.cm.cell 6
            have d7 := hm.out.cm.cell 7
            have d8 := hm.out.cm.cell 8
            have d9 := hm.out.cm.cell 9
            have d10 := hm.out.cm.cell 10
            simp only [List.getElem?_toArray, List.getElem?_cons_zero, List.getElem?_cons_succ] at d0 d1 d2 d3 d4 d5 d6 d7 d8 d9 d10
            have e0 := hm.out.re.cell 0
            have e1 := hm.out.re.cell 1
            have e2 := hm.out.re.cell 2
            have e3 := hm.out.re.cell 3
            have e4 := hm.out.re.cell 4
            have e5 := hm.out.re.cell 5
            have e6 := hm.out.re.cell 6
            have e7 := hm.out.re.cell 7
            have e8 := hm.out.re.cell 8
            have e9 := hm.out.re.cell 9
            have e10 := hm.out.re.cell 10
            simp only [List.getElem?_toArray, List.getElem?_cons_zero, List.getElem?_cons_succ] at e0 e1 e2 e3 e4 e5 e6 e7 e8 e9 e10
            have fe0 := hm.out.re.frozen 0
            have fe1 := hm.out.re.frozen 1
            have fe2 := hm.out.re.frozen 2
            have fe3 := hm.out.re.frozen 3
            have fe4 := hm.out.re.frozen 4
            have fe5 := hm.out.re.frozen 5
            have fe6 := hm.out.re.frozen 6
            have fe7 := hm.out.re.frozen 7
            have fe8 := hm.out.re.frozen 8
            have fe9 := hm.out.re.frozen 9
            have fe10 := hm.out.re.frozen 10
            have HE : Hid (Blk (((((((((((wr.setCell ⟨s + 1, 0, none⟩ (.int .i64 1)).setCell ⟨s + 1, 1, none⟩ (.int .i64 op)).setCell ⟨s + 1, 2, none⟩ (.int .i64 x)).setCell ⟨s + 1, 3, none⟩ (.int .i64 y)).setCell ⟨s + 1, 4, none⟩ (.bool fr)).setCell ⟨s + 1, 5, none⟩ (.slice B ps.length ps.length)).setCell ⟨s + 1, 6, none⟩ (.int .i64 0)).setCell ⟨s + 1, 7, none⟩ (.int .i64 0)).setCell ⟨s + 1, 8, none⟩ (.int .i64 0)).setCell ⟨s + 1, 9, none⟩ (.int .i64 0)).setCell ⟨s + 1, 10, none⟩ (.int .i64 0)) (s + 1) 32 #[.int .i64 1, .int .i64 op, .int .i64 x, .int .i64 y, .bool fr, .slice B ps.length ps.length, .int .i64 0, .int .i64 0, .int .i64 0, .int .i64 0, .int .i64 0]) := blk_put11 hm.out.re (.int .i64 1) (.int .i64 op) (.int .i64 x) (.int .i64 y) (.bool fr) (.slice B ps.length ps.length) (.int .i64 0) (.int .i64 0) (.int .i64 0) (.int .i64 0) (.int .i64 0)
            have hfE : Fr (fun b => b = s + 1) wr (((((((((((wr.setCell ⟨s + 1, 0, none⟩ (.int .i64 1)).setCell ⟨s + 1, 1, none⟩ (.int .i64 op)).setCell ⟨s + 1, 2, none⟩ (.int .i64 x)).setCell ⟨s + 1, 3, none⟩ (.int .i64 y)).setCell ⟨s + 1, 4, none⟩ (.bool fr)).setCell ⟨s + 1, 5, none⟩ (.slice B ps.length ps.length)).setCell ⟨s + 1, 6, none⟩ (.int .i64 0)).setCell ⟨s + 1, 7, none⟩ (.int .i64 0)).setCell ⟨s + 1, 8, none⟩ (.int .i64 0)).setCell ⟨s + 1, 9, none⟩ (.int .i64 0)).setCell ⟨s + 1, 10, none⟩ (.int .i64 0)) := (fr_set1 (fr_set1 (fr_set1 (fr_set1 (fr_set1 (fr_set1 (fr_set1 (fr_set1 (fr_set1 (fr_set1 (fr_set1 (Fr.refl (fun b => b = s + 1) wr) (s + 1) 0 rfl (.int .i64 1)) (s + 1) 1 rfl (.int .i64 op)) (s + 1) 2 rfl (.int .i64 x)) (s + 1) 3 rfl (.int .i64 y)) (s + 1) 4 rfl (.bool fr)) (s + 1) 5 rfl (.slice B ps.length ps.length)) (s + 1) 6 rfl (.int .i64 0)) (s + 1) 7 rfl (.int .i64 0)) (s + 1) 8 rfl (.int .i64 0)) (s + 1) 9 rfl (.int .i64 0)) (s + 1) 10 rfl (.int .i64 0))
            have hdn := hm.out.done (by have := HS.out; omega) HNl.out hfE
            have HD1 := Lib.hid hdn.1
            have HD2 := Lib.hid hdn.2
            clear hfE hdn
            go_wp2
            refine bodyPost_ret (results_cell_row rfl _ _ _ _ _ _ _ rfl HE.out Tryd.underlying32 rfl cmd_size) rfl ⟨_, rfl, ?_, HD2.out⟩
            rw [HM1.out]
            exact ⟨B, ps.length, rfl, Nat.le_refl _, HD1.out, fun a ha _ => by have := HNl.out a ha; have := HS.out; omega⟩
      · have b1 := HSt.out.sh.cell 1
        have b4 := HSt.out.sh.cell 4
        simp only [List.getElem?_toArray, List.getElem?_cons_zero, List.getElem?_cons_succ] at b1 b4
        have d10 := HSt.out.cm.cell 10
        simp only [List.getElem?_toArray, List.getElem?_cons_zero, List.getElem?_cons_succ] at d10
        have fd10 := HSt.out.cm.frozen 10
        have HNv : Hid (∃ nv : Int, (if 0 < xn then l.getD 0 0 else 0) = nv) := ⟨_, rfl⟩
        obtain ⟨nv, hnv⟩ := HNv
        have HNV := Lib.hid hnv
        clear hnv
        by_cases h0n : 0 < xn
        · obtain ⟨g', z, hA', hz, hW⟩ := HLd.out 0 h0n
          cases hA'
        · have kx : ¬ (0 : Int) < (xn : Int) := by omega
          have hzn : (0 : Int) = nv := by rw [← HNV.out, if_neg h0n]
          subst hzn
          have H1 := HSt
          go_wp2
          go_loopw [60] (fun i wr => ∃ (k : Nat) (p q : Int × Int), k ≤ 2 ∧ i = .int .i64 k ∧ Hid (p = if 0 < k then ps.getD 0 (0, 0) else (0, 0)) ∧ Hid (q = if 1 < k then ps.getD 1 (0, 0) else (0, 0)) ∧ Hid (MdS w wr s ⟨wd, kd, op, fr, xn, xp⟩ #[.int .i64 kd, .int .i64 0, .int .i64 0, .int .i64 0, .bool false, .slice none 0 0, .int .i64 p.1, .int .i64 p.2, .int .i64 q.1, .int .i64 q.2, .int .i64 0] ps B)) (fun i _ => 2 - (intOf i).toNat)
          case atStart => exact ⟨0, (0, 0), (0, 0), by omega, rfl, by simp [Hid], by simp [Hid], H1.out⟩
          case round =>
            have i0 := fun a b w => idp0 a b w
            have i1 := fun a b w => idp1 a b w
            obtain ⟨k, p, q, hk2, rfl, hx1, hy1, hm⟩ := hrel
            obtain ⟨p1, p2⟩ := p
            obtain ⟨q1, q2⟩ := q
            dsimp only at hm
            have hswr := hm.out.cm.lt
            have hcase : k = 0 ∨ k = 1 ∨ k = 2 := by omega
            rcases hcase with rfl | rfl | rfl
            · by_cases hk0 : 0 < ps.length
              · obtain ⟨g', o', hB', hcc⟩ := hm.out.pt (by omega)
                subst hB'
                have hcv := hcc 0 _ (List.getElem?_eq_getElem hk0)
                obtain ⟨z, hz⟩ : ∃ z, ps[0] = z := ⟨_, rfl⟩
                rw [hz] at hcv
                have HZ : Hid (ps.getD 0 (0, 0) = z) := by rw [← hz]; simp [Hid, List.getD, List.getElem?_eq_getElem hk0]
                obtain ⟨z1, z2⟩ := z
                obtain ⟨c0, c1⟩ := hcv
                dsimp only at c0 c1
                have hpp := cell_lt c0
                dsimp only at hpp
                rw [Nat.zero_mul, Nat.add_zero] at c0 c1
                have kx : (0 : Int) < (ps.length : Int) := by omega
                have d6 := hm.out.cm.cell 6
                have d7 := hm.out.cm.cell 7
                simp only [List.getElem?_toArray, List.getElem?_cons_zero, List.getElem?_cons_succ] at d6 d7
                have fd6 := hm.out.cm.frozen 6
                have fd7 := hm.out.cm.frozen 7
                have H2 := Lib.hid ((hm.out.set (by have := HS.out; omega) HNe.out 6 (.int .i64 z1)).set (by have := HS.out; omega) HNe.out 7 (.int .i64 z2))
                clear hz hm hcc
                go_wp2
                go_roundw
                case rel => exact ⟨1, (z1, z2), (q1, q2), by omega, by go_num, by rw [HZ.out]; simp [Hid], by have := hy1.out; simp at this; simp [Hid, this], H2.out⟩
                case measure => simp [intOf]
              · have kx : ¬ (0 : Int) < (ps.length : Int) := by omega
                have HZ : Hid (ps.getD 0 (0, 0) = (0, 0)) := by simp [Hid, List.getD, List.getElem?_eq_none (Nat.le_of_not_lt hk0)]
                go_wp2
                go_roundw
                case rel => exact ⟨1, (p1, p2), (q1, q2), by omega, by go_num, by rw [HZ.out]; have := hx1.out; simp at this; simp [Hid, this], by have := hy1.out; simp at this; simp [Hid, this], hm.out⟩
                case measure => simp [intOf]
            · by_cases hk0 : 1 < ps.length
              · obtain ⟨g', o', hB', hcc⟩ := hm.out.pt (by omega)
                subst hB'
                have hcv := hcc 1 _ (List.getElem?_eq_getElem hk0)
                obtain ⟨z, hz⟩ : ∃ z, ps[1] = z := ⟨_, rfl⟩
                rw [hz] at hcv
                have HZ : Hid (ps.getD 1 (0, 0) = z) := by rw [← hz]; simp [Hid, List.getD, List.getElem?_eq_getElem hk0]
                obtain ⟨z1, z2⟩ := z
                obtain ⟨c0, c1⟩ := hcv
                dsimp only at c0 c1
                have hpp := cell_lt c0
                dsimp only at hpp
                rw [Nat.one_mul] at c0 c1
                have kx : (1 : Int) < (ps.length : Int) := by omega
                have d8 := hm.out.cm.cell 8
                have d9 := hm.out.cm.cell 9
                simp only [List.getElem?_toArray, List.getElem?_cons_zero, List.getElem?_cons_succ] at d8 d9
                have fd8 := hm.out.cm.frozen 8
                have fd9 := hm.out.cm.frozen 9
                have H2 := Lib.hid ((hm.out.set (by have := HS.out; omega) HNe.out 8 (.int .i64 z1)).set (by have := HS.out; omega) HNe.out 9 (.int .i64 z2))
                clear hz hm hcc
                go_wp2
                go_roundw
                case rel => exact ⟨2, (p1, p2), (z1, z2), by omega, by go_num, by have := hx1.out; simp at this; simp [Hid, this], by rw [HZ.out]; simp [Hid], H2.out⟩
                case measure => simp [intOf]
              · have kx : ¬ (1 : Int) < (ps.length : Int) := by omega
                have HZ : Hid (ps.getD 1 (0, 0) = (0, 0)) := by simp [Hid, List.getD, List.getElem?_eq_none (Nat.le_of_not_lt hk0)]
                go_wp2
                go_roundw
                case rel => exact ⟨2, (p1, p2), (q1, q2), by omega, by go_num, by have := hx1.out; simp at this; simp [Hid, this], by rw [HZ.out]; have := hy1.out; simp at this; simp [Hid, this], hm.out⟩
                case measure => simp [intOf]
            · have hxx : (p1, p2) = ps.getD 0 (0, 0) := by have := hx1.out; rw [if_pos (by omega)] at this; exact this
              have hyy : (q1, q2) = ps.getD 1 (0, 0) := by have := hy1.out; rw [if_pos (by omega)] at this; exact this
              have HM1 : Hid (M = { kind := kd, n := 0, p := (p1, p2), q := (q1, q2) }) := by have := HMd.out; rw [if_neg hk, HNV.out, ← hxx, ← hyy] at this; exact this
              clear hxx hyy hx1 hy1
              have d0 := hm.out.cm.cell 0
              have d1 := hm.out.cm.cell 1
              have d2 := hm.out.cm.cell 2
              have d3 := hm.out.cm.cell 3
              have d4 := hm.out.cm.cell 4
              have d5 := hm.out.cm.cell 5
              have d6 := hm.out.cm.cell 6
              have d7 := hm.out.cm.cell 7
              have d8 := hm.out.cm.cell 8
              have d9 := hm.out.cm.cell 9
              have d10 := hm.out.cm.cell 10
              simp only [List.getElem?_toArray, List.getElem?_cons_zero, List.getElem?_cons_succ] at d0 d1 d2 d3 d4 d5 d6 d7 d8 d9 d10
              have e0 := hm.out.re.cell 0
              have e1 := hm.out.re.cell 1
              have e2 := hm.out.re.cell 2
              have e3 := hm.out.re.cell 3
              have e4 := hm.out.re.cell 4
              have e5 := hm.out.re.cell 5
              have e6 := hm.out.re.cell 6
              have e7 := hm.out.re.cell 7
              have e8 := hm.out.re.cell 8
              have e9 := hm.out.re.cell 9
              have e10 := hm.out.re.cell 10
              simp only [List.getElem?_toArray, List.getElem?_cons_zero, List.getElem?_cons_succ] at e0 e1 e2 e3 e4 e5 e6 e7 e8 e9 e10
              have fe0 := hm.out.re.frozen 0
              have fe1 := hm.out.re.frozen 1
              have fe2 := hm.out.re.frozen 2
              have fe3 := hm.out.re.frozen 3
              have fe4 := hm.out.re.frozen 4
              have fe5 := hm.out.re.frozen 5
              have fe6 := hm.out.re.frozen 6
              have fe7 := hm.out.re.frozen 7
              have fe8 := hm.out.re.frozen 8
              have fe9 := hm.out.re.frozen 9
              have fe10 := hm.out.re.frozen 10
              have HE : Hid (Blk (((((((((((wr.setCell ⟨s + 1, 0, none⟩ (.int .i64 kd)).setCell ⟨s + 1, 1, none⟩ (.int .i64 0)).setCell ⟨s + 1, 2, none⟩ (.int .i64 0)).setCell ⟨s + 1, 3, none⟩ (.int .i64 0)).setCell ⟨s + 1, 4, none⟩ (.bool false)).setCell ⟨s + 1, 5, none⟩ (.slice none 0 0)).setCell ⟨s + 1, 6, none⟩ (.int .i64 p1)).setCell ⟨s + 1, 7, none⟩ (.int .i64 p2)).setCell ⟨s + 1, 8, none⟩ (.int .i64 q1)).setCell ⟨s + 1, 9, none⟩ (.int .i64 q2)).setCell ⟨s + 1, 10, none⟩ (.int .i64 0)) (s + 1) 32 #[.int .i64 kd, .int .i64 0, .int .i64 0, .int .i64 0, .bool false, .slice none 0 0, .int .i64 p1, .int .i64 p2, .int .i64 q1, .int .i64 q2, .int .i64 0]) := blk_put11 hm.out.re (.int .i64 kd) (.int .i64 0) (.int .i64 0) (.int .i64 0) (.bool false) (.slice none 0 0) (.int .i64 p1) (.int .i64 p2) (.int .i64 q1) (.int .i64 q2) (.int .i64 0)
              have hfE : Fr (fun b => b = s + 1) wr (((((((((((wr.setCell ⟨s + 1, 0, none⟩ (.int .i64 kd)).setCell ⟨s + 1, 1, none⟩ (.int .i64 0)).setCell ⟨s + 1, 2, none⟩ (.int .i64 0)).setCell ⟨s + 1, 3, none⟩ (.int .i64 0)).setCell ⟨s + 1, 4, none⟩ (.bool false)).setCell ⟨s + 1, 5, none⟩ (.slice none 0 0)).setCell ⟨s + 1, 6, none⟩ (.int .i64 p1)).setCell ⟨s + 1, 7, none⟩ (.int .i64 p2)).setCell ⟨s + 1, 8, none⟩ (.int .i64 q1)).setCell ⟨s + 1, 9, none⟩ (.int .i64 q2)).setCell ⟨s + 1, 10, none⟩ (.int .i64 0)) := (fr_set1 (fr_set1 (fr_set1 (fr_set1 (fr_set1 (fr_set1 (fr_set1 (fr_set1 (fr_set1 (fr_set1 (fr_set1 (Fr.refl (fun b => b = s + 1) wr) (s + 1) 0 rfl (.int .i64 kd)) (s + 1) 1 rfl (.int .i64 0)) (s + 1) 2 rfl (.int .i64 0)) (s + 1) 3 rfl (.int .i64 0)) (s + 1) 4 rfl (.bool false)) (s + 1) 5 rfl (.slice none 0 0)) (s + 1) 6 rfl (.int .i64 p1)) (s + 1) 7 rfl (.int .i64 p2)) (s + 1) 8 rfl (.int .i64 q1)) (s + 1) 9 rfl (.int .i64 q2)) (s + 1) 10 rfl (.int .i64 0))
              have hdn := hm.out.done (by have := HS.out; omega) HNl.out hfE
              have HD1 := Lib.hid hdn.1
              have HD2 := Lib.hid hdn.2
              clear hfE hdn
              go_wp2
              refine bodyPost_ret (results_cell_row rfl _ _ _ _ _ _ _ rfl HE.out Tryd.underlying32 rfl cmd_size) rfl ⟨_, rfl, ?_, HD2.out⟩
              rw [HM1.out]
              exact ⟨none, 0, rfl, Nat.le_refl _, fun h0 => absurd h0 (by simp), fun a ha => by cases ha⟩
  · have HI1 := HI1 g rfl
    have HA1 := Lib.hid (HA1 g rfl)
    by_cases hcz : cp = xn
    · have hNx : xn = N := by omega
      have hcz' : xn = cp := hcz.symm
      clear hcz
      subst hcz'
      subst hNx
      rw [Nat.sub_self] at HQ
      go_wp2_with fail
      refine (HQ.out _ _ _ ?_).mono ?_
      · exact (HA1.out (Nat.sub_self _))
      · skip
        rintro e w1 ⟨B, rfl, hB, hbb, hf1⟩
        have hst := HB3.out w1 hf1 B hB
        have HNl : Hid (∀ a, B = some a → w.heap.size + 1 + 1 < a.block) := fun a ha => by have := hbb a ha; simp at this; omega
        have HNe : Hid (∀ a, B = some a → 0 < ps.length → a.block ≠ w.heap.size + 1 + 1) := fun a ha _ => by have := HNl.out a ha; omega
        have hsl : w.heap.size + 1 + 1 < w1.heap.size := hst.cm.lt
        clear hB hbb hf1 HQ HB3 HW0
        obtain ⟨s, hs⟩ : ∃ s, w.heap.size = s := ⟨_, rfl⟩
        have HS := Lib.hid hs
        rw [hs] at hst HNe HNl hsl ⊢
        clear hs
        have HSt := Lib.hid hst
        clear hst
        by_cases hk : kd = 1
        · subst hk
          have b1 := HSt.out.sh.cell 1
          have b2 := HSt.out.sh.cell 2
          have b3 := HSt.out.sh.cell 3
          have b4 := HSt.out.sh.cell 4
          simp only [List.getElem?_toArray, List.getElem?_cons_zero, List.getElem?_cons_succ] at b1 b2 b3 b4
          have d1 := HSt.out.cm.cell 1
          have d2 := HSt.out.cm.cell 2
          have d3 := HSt.out.cm.cell 3
          have d4 := HSt.out.cm.cell 4
          have d5 := HSt.out.cm.cell 5
          simp only [List.getElem?_toArray, List.getElem?_cons_zero, List.getElem?_cons_succ] at d1 d2 d3 d4 d5
          have fd1 := HSt.out.cm.frozen 1
          have fd2 := HSt.out.cm.frozen 2
          have fd3 := HSt.out.cm.frozen 3
          have fd4 := HSt.out.cm.frozen 4
          have fd5 := HSt.out.cm.frozen 5
          have H1 := Lib.hid (((((HSt.out.set (by have := HS.out; omega) HNe.out 1 (.int .i64 op)).set (by have := HS.out; omega) HNe.out 2 (.int .i64 0)).set (by have := HS.out; omega) HNe.out 3 (.int .i64 0)).set (by have := HS.out; omega) HNe.out 4 (.bool fr)).set (by have := HS.out; omega) HNe.out 5 (.slice B ps.length ps.length))
          go_wp2
          go_loopw [34] (fun i wr => ∃ (k : Nat) (x y : Int), k ≤ 2 ∧ i = .int .i64 k ∧ Hid (x = if 0 < xn ∧ 0 < k then l.getD 0 0 else 0) ∧ Hid (y = if 1 < xn ∧ 1 < k then l.getD 1 0 else 0) ∧ Hid (MdS w wr s ⟨wd, 1, op, fr, xn, xp⟩ #[.int .i64 1, .int .i64 op, .int .i64 x, .int .i64 y, .bool fr, .slice B ps.length ps.length, .int .i64 0, .int .i64 0, .int .i64 0, .int .i64 0, .int .i64 0] ps B)) (fun i _ => 2 - (intOf i).toNat)
          case atStart => exact ⟨0, 0, 0, by omega, rfl, by simp [Hid], by simp [Hid], H1.out⟩
          case round =>
            have i0 := fun a b w => idx0 a b w
            have i1 := fun a b w => idx1 a b w
            obtain ⟨k, x, y, hk2, rfl, hx1, hy1, hm⟩ := hrel
            have hswr := hm.out.cm.lt
            have b4 := hm.out.sh.cell 4
            simp only [List.getElem?_toArray, List.getElem?_cons_zero, List.getElem?_cons_succ] at b4
            have hcase : k = 0 ∨ k = 1 ∨ k = 2 := by omega
            rcases hcase with rfl | rfl | rfl
            · by_cases hk0 : 0 < xn
              · obtain ⟨g', z, hA', hz, hW⟩ := HLd.out 0 hk0
                cases hA'
                have c0 := hW wr hm.out.fr
                have hpp := cell_lt c0
                have kx : (0 : Int) < (xn : Int) := by omega
                have kN : (0 : Int) < (xn : Int) := by omega
                have d2 := hm.out.cm.cell 2
                simp only [List.getElem?_toArray, List.getElem?_cons_zero, List.getElem?_cons_succ] at d2
                have fd2 := hm.out.cm.frozen 2
                have H2 := Lib.hid (hm.out.set (by have := HS.out; omega) HNe.out 2 (.int .i64 z))
                have HZ := Lib.hid hz
                clear hz hW hm
                go_wp2
                go_roundw
                case rel => exact ⟨1, z, y, by omega, by go_num, by rw [HZ.out.symm]; simp [Hid, hk0], by have := hy1.out; simp at this; simp [Hid, this], H2.out⟩
                case measure => simp [intOf]
              · have kx : ¬ (0 : Int) < (xn : Int) := by omega
                go_wp2
                go_roundw
                case rel => exact ⟨1, x, y, by omega, by go_num, by have := hx1.out; simp [hk0] at this; simp [Hid, hk0, this], by have := hy1.out; simp at this; simp [Hid, this], hm.out⟩
                case measure => simp [intOf]
            · by_cases hk0 : 1 < xn
              · obtain ⟨g', z, hA', hz, hW⟩ := HLd.out 1 hk0
                cases hA'
                have c0 := hW wr hm.out.fr
                have hpp := cell_lt c0
                have kx : (1 : Int) < (xn : Int) := by omega
                have kN : (1 : Int) < (xn : Int) := by omega
                have d3 := hm.out.cm.cell 3
                simp only [List.getElem?_toArray, List.getElem?_cons_zero, List.getElem?_cons_succ] at d3
                have fd3 := hm.out.cm.frozen 3
                have H2 := Lib.hid (hm.out.set (by have := HS.out; omega) HNe.out 3 (.int .i64 z))
                have HZ := Lib.hid hz
                clear hz hW hm
                go_wp2
                go_roundw
                case rel => exact ⟨2, x, z, by omega, by go_num, by have := hx1.out; simp at this; simp [Hid, this], by rw [HZ.out.symm]; simp [Hid, hk0], H2.out⟩
                case measure => simp [intOf]
              · have kx : ¬ (1 : Int) < (xn : Int) := by omega
                go_wp2
                go_roundw
                case rel => exact ⟨2, x, y, by omega, by go_num, by have := hx1.out; simp at this; simp [Hid, this], by have := hy1.out; simp [hk0] at this; simp [Hid, hk0, this], hm.out⟩
                case measure => simp [intOf]
            · have hxx : x = if 0 < xn then l.getD 0 0 else 0 := by have := hx1.out; simpa using this
              have hyy : y = if 1 < xn then l.getD 1 0 else 0 := by have := hy1.out; simpa using this
              have HM1 : Hid (M = { kind := 1, op := op, fresh := fr, a := x, b := y, line := ps }) := by rw [hxx, hyy]; have := HMd.out; simpa [Hid] using this
              clear hxx hyy hx1 hy1
              have d0 := hm.out.cm.cell 0
              have d1 := hm.out.cm.cell 1
              have d2 := hm.out.cm.cell 2
              have d3 := hm.out.cm.cell 3
              have d4 := hm.out.cm.cell 4
              have d5 := hm.out.cm.cell 5
              have d6 := hm.out.cm.cell 6
              have d7 := hm.out.cm.cell 7
              have d8 := hm.out.cm.cell 8
              have d9 := hm.out.cm.cell 9
              have d10 := hm.out.cm.cell 10
              simp only [List.getElem?_toArray, List.getElem?_cons_zero, List.getElem?_cons_succ] at d0 d1 d2 d3 d4 d5 d6 d7 d8 d9 d10
              have e0 := hm.out.re.cell 0
              have e1 := hm.out.re.cell 1
              have e2 := hm.out.re.cell 2
              have e3 := hm.out.re.cell 3
              have e4 := hm.out.re.cell 4
              have e5 := hm.out.re.cell 5
              have e6 := hm.out.re.cell 6
              have e7 := hm.out.re.cell 7
              have e8 := hm.out.re.cell 8
              have e9 := hm.out.re.cell 9
              have e10 := hm.out.re.cell 10
              simp only [List.getElem?_toArray, List.getElem?_cons_zero, List.getElem?_cons_succ] at e0 e1 e2 e3 e4 e5 e6 e7 e8 e9 e10
              have fe0 := hm.out.re.frozen 0
              have fe1 := hm.out.re.frozen 1
              have fe2 := hm.out.re.frozen 2
              have fe3 := hm.out.re.frozen 3
              have fe4 := hm.out.re.frozen 4
              have fe5 := hm.out.re.frozen 5
              have fe6 := hm.out.re.frozen 6
              have fe7 := hm.out.re.frozen 7
              have fe8 := hm.out.re.frozen 8
              have fe9 := hm.out.re.frozen 9
              have fe10 := hm.out.re.frozen 10
              have HE : Hid (Blk (((((((((((wr.setCell ⟨s + 1, 0, none⟩ (.int .i64 1)).setCell ⟨s + 1, 1, none⟩ (.int .i64 op)).setCell ⟨s + 1, 2, none⟩ (.int .i64 x)).setCell ⟨s + 1, 3, none⟩ (.int .i64 y)).setCell ⟨s + 1, 4, none⟩ (.bool fr)).setCell ⟨s + 1, 5, none⟩ (.slice B ps.length ps.length)).setCell ⟨s + 1, 6, none⟩ (.int .i64 0)).setCell ⟨s + 1, 7, none⟩ (.int .i64 0)).setCell ⟨s + 1, 8, none⟩ (.int .i64 0)).setCell ⟨s + 1, 9, none⟩ (.int .i64 0)).setCell ⟨s + 1, 10, none⟩ (.int .i64 0)) (s + 1) 32 #[.int .i64 1, .int .i64 op, .int .i64 x, .int .i64 y, .bool fr, .slice B ps.length ps.length, .int .i64 0, .int .i64 0, .int .i64 0, .int .i64 0, .int .i64 0]) := blk_put11 hm.out.re (.int .i64 1) (.int .i64 op) (.int .i64 x) (.int .i64 y) (.bool fr) (.slice B ps.length ps.length) (.int .i64 0) (.int .i64 0) (.int .i64 0) (.int .i64 0) (.int .i64 0)
              have hfE : Fr (fun b => b = s + 1) wr (((((((((((wr.setCell ⟨s + 1, 0, none⟩ (.int .i64 1)).setCell ⟨s + 1, 1, none⟩ (.int .i64 op)).setCell ⟨s + 1, 2, none⟩ (.int .i64 x)).setCell ⟨s + 1, 3, none⟩ (.int .i64 y)).setCell ⟨s + 1, 4, none⟩ (.bool fr)).setCell ⟨s + 1, 5, none⟩ (.slice B ps.length ps.length)).setCell ⟨s + 1, 6, none⟩ (.int .i64 0)).setCell ⟨s + 1, 7, none⟩ (.int .i64 0)).setCell ⟨s + 1, 8, none⟩ (.int .i64 0)).setCell ⟨s + 1, 9, none⟩ (.int .i64 0)).setCell ⟨s + 1, 10, none⟩ (.int .i64 0)) := (fr_set1 (fr_set1 (fr_set1 (fr_set1 (fr_set1 (fr_set1 (fr_set1 (fr_set1 (fr_set1 (fr_set1 (fr_set1 (Fr.refl (fun b => b = s + 1) wr) (s + 1) 0 rfl (.int .i64 1)) (s + 1) 1 rfl (.int .i64 op)) (s + 1) 2 rfl (.int .i64 x)) (s + 1) 3 rfl (.int .i64 y)) (s + 1) 4 rfl (.bool fr)) (s + 1) 5 rfl (.slice B ps.length ps.length)) (s + 1) 6 rfl (.int .i64 0)) (s + 1) 7 rfl (.int .i64 0)) (s + 1) 8 rfl (.int .i64 0)) (s + 1) 9 rfl (.int .i64 0)) (s + 1) 10 rfl (.int .i64 0))
              have hdn := hm.out.done (by have := HS.out; omega) HNl.out hfE
              have HD1 := Lib.hid hdn.1
              have HD2 := Lib.hid hdn.2
              clear hfE hdn
              go_wp2
              refine bodyPost_ret (results_cell_row rfl _ _ _ _ _ _ _ rfl HE.out Tryd.underlying32 rfl cmd_size) rfl ⟨_, rfl, ?_, HD2.out⟩
              rw [HM1.out]
              exact ⟨B, ps.length, rfl, Nat.le_refl _, HD1.out, fun a ha _ => by have := HNl.out a ha; have := HS.out; omega⟩
        · have b1 := HSt.out.sh.cell 1
          have b4 := HSt.out.sh.cell 4
          simp only [List.getElem?_toArray, List.getElem?_cons_zero, List.getElem?_cons_succ] at b1 b4
          have d10 := HSt.out.cm.cell 10
          simp only [List.getElem?_toArray, List.getElem?_cons_zero, List.getElem?_cons_succ] at d10
          have fd10 := HSt.out.cm.frozen 10
          have HNv : Hid (∃ nv : Int, (if 0 < xn then l.getD 0 0 else 0) = nv) := ⟨_, rfl⟩
          obtain ⟨nv, hnv⟩ := HNv
          have HNV := Lib.hid hnv
          clear hnv
          by_cases h0n : 0 < xn
          · obtain ⟨g', z, hA', hz, hW⟩ := HLd.out 0 h0n
            cases hA'
            have hzn : nv = z := by rw [← HNV.out, if_pos h0n, hz]
            subst hzn
            have c0 := hW w1 HSt.out.fr
            have hpp := cell_lt c0
            have kx : (0 : Int) < (xn : Int) := by omega
            have kN : (0 : Int) < (xn : Int) := by omega
            have H1 := Lib.hid (HSt.out.set (by have := HS.out; omega) HNe.out 10 (.int .i64 nv))
            clear hz hW
            go_wp2
            go_loopw [60] (fun i wr => ∃ (k : Nat) (p q : Int × Int), k ≤ 2 ∧ i = .int .i64 k ∧ Hid (p = if 0 < k then ps.getD 0 (0, 0) else (0, 0)) ∧ Hid (q = if 1 < k then ps.getD 1 (0, 0) else (0, 0)) ∧ Hid (MdS w wr s ⟨wd, kd, op, fr, xn, xp⟩ #[.int .i64 kd, .int .i64 0, .int .i64 0, .int .i64 0, .bool false, .slice none 0 0, .int .i64 p.1, .int .i64 p.2, .int .i64 q.1, .int .i64 q.2, .int .i64 nv] ps B)) (fun i _ => 2 - (intOf i).toNat)
            case atStart => exact ⟨0, (0, 0), (0, 0), by omega, rfl, by simp [Hid], by simp [Hid], H1.out⟩
            case round =>
              have i0 := fun a b w => idp0 a b w
              have i1 := fun a b w => idp1 a b w
              obtain ⟨k, p, q, hk2, rfl, hx1, hy1, hm⟩ := hrel
              obtain ⟨p1, p2⟩ := p
              obtain ⟨q1, q2⟩ := q
              dsimp only at hm
              have hswr := hm.out.cm.lt
              have hcase : k = 0 ∨ k = 1 ∨ k = 2 := by omega
              rcases hcase with rfl | rfl | rfl
              · by_cases hk0 : 0 < ps.length
                · obtain ⟨g', o', hB', hcc⟩ := hm.out.pt (by omega)
                  subst hB'
                  have hcv := hcc 0 _ (List.getElem?_eq_getElem hk0)
                  obtain ⟨z, hz⟩ : ∃ z, ps[0] = z := ⟨_, rfl⟩
                  rw [hz] at hcv
                  have HZ : Hid (ps.getD 0 (0, 0) = z) := by rw [← hz]; simp [Hid, List.getD, List.getElem?_eq_getElem hk0]
                  obtain ⟨z1, z2⟩ := z
                  obtain ⟨c0, c1⟩ := hcv
                  dsimp only at c0 c1
                  have hpp := cell_lt c0
                  dsimp only at hpp
                  rw [Nat.zero_mul, Nat.add_zero] at c0 c1
                  have kx : (0 : Int) < (ps.length : Int) := by omega
                  have d6 := hm.out.cm.cell 6
                  have d7 := hm.out.cm.cell 7
                  simp only [List.getElem?_toArray, List.getElem?_cons_zero, List.getElem?_cons_succ] at d6 d7
                  have fd6 := hm.out.cm.frozen 6
                  have fd7 := hm.out.cm.frozen 7
                  have H2 := Lib.hid ((hm.out.set (by have := HS.out; omega) HNe.out 6 (.int .i64 z1)).set (by have := HS.out; omega) HNe.out 7 (.int .i64 z2))
                  clear hz hm hcc
                  go_wp2
                  go_roundw
                  case rel => exact ⟨1, (z1, z2), (q1, q2), by omega, by go_num, by rw [HZ.out]; simp [Hid], by have := hy1.out; simp at this; simp [Hid, this], H2.out⟩
                  case measure => simp [intOf]
                · have kx : ¬ (0 : Int) < (ps.length : Int) := by omega
                  have HZ : Hid (ps.getD 0 (0, 0) = (0, 0)) := by simp [Hid, List.getD, List.getElem?_eq_none (Nat.le_of_not_lt hk0)]
                  go_wp2
                  go_roundw
                  case rel => exact ⟨1, (p1, p2), (q1, q2), by omega, by go_num, by rw [HZ.out]; have := hx1.out; simp at this; simp [Hid, this], by have := hy1.out; simp at this; simp [Hid, this], hm.out⟩
                  case measure => simp [intOf]
              · by_cases hk0 : 1 < ps.length
                · obtain ⟨g', o', hB', hcc⟩ := hm.out.pt (by omega)
                  subst hB'
                  have hcv := hcc 1 _ (List.getElem?_eq_getElem hk0)
                  obtain ⟨z, hz⟩ : ∃ z, ps[1] = z := ⟨_, rfl⟩
                  rw [hz] at hcv
                  have HZ : Hid (ps.getD 1 (0, 0) = z) := by rw [← hz]; simp [Hid, List.getD, List.getElem?_eq_getElem hk0]
                  obtain ⟨z1, z2⟩ := z
                  obtain ⟨c0, c1⟩ := hcv
                  dsimp only at c0 c1
                  have hpp := cell_lt c0
                  dsimp only at hpp
                  rw [Nat.one_mul] at c0 c1
                  have kx : (1 : Int) < (ps.length : Int) := by omega
                  have d8 := hm.out.cm.cell 8
                  have d9 := hm.out.cm.cell 9
                  simp only [List.getElem?_toArray, List.getElem?_cons_zero, List.getElem?_cons_succ] at d8 d9
                  have fd8 := hm.out.cm.frozen 8
                  have fd9 := hm.out.cm.frozen 9
                  have H2 := Lib.hid ((hm.out.set (by have := HS.out; omega) HNe.out 8 (.int .i64 z1)).set (by have := HS.out; omega) HNe.out 9 (.int .i64 z2))
                  clear hz hm hcc
                  go_wp2
                  go_roundw
                  case rel => exact ⟨2, (p1, p2), (z1, z2), by omega, by go_num, by have := hx1.out; simp at this; simp [Hid, this], by rw [HZ.out]; simp [Hid], H2.out⟩
                  case measure => simp [intOf]
                · have kx : ¬ (1 : Int) < (ps.length : Int) := by omega
                  have HZ : Hid (ps.getD 1 (0, 0) = (0, 0)) := by simp [Hid, List.getD, List.getElem?_eq_none (Nat.le_of_not_lt hk0)]
                  go_wp2
                  go_roundw
                  case rel => exact ⟨2, (p1, p2), (q1, q2), by omega, by go_num, by have := hx1.out; simp at this; simp [Hid, this], by rw [HZ.out]; have := hy1.out; simp at this; simp [Hid, this], hm.out⟩
                  case measure => simp [intOf]
              · have hxx : (p1, p2) = ps.getD 0 (0, 0) := by have := hx1.out; rw [if_pos (by omega)] at this; exact this
                have hyy : (q1, q2) = ps.getD 1 (0, 0) := by have := hy1.out; rw [if_pos (by omega)] at this; exact this
                have HM1 : Hid (M = { kind := kd, n := nv, p := (p1, p2), q := (q1, q2) }) := by have := HMd.out; rw [if_neg hk, HNV.out, ← hxx, ← hyy] at this; exact this
                clear hxx hyy hx1 hy1
                have d0 := hm.out.cm.cell 0
                have d1 := hm.out.cm.cell 1
                have d2 := hm.out.cm.cell 2
                have d3 := hm.out.cm.cell 3
                have d4 := hm.out.cm.cell 4
                have d5 := hm.out.cm.cell 5
                have d6 := hm.out.cm.cell 6
                have d7 := hm.out.cm.cell 7
                have d8 := hm.out.cm.cell 8
                have d9 := hm.out.cm.cell 9
                have d10 := hm.out.cm.cell 10
                simp only [List.getElem?_toArray, List.getElem?_cons_zero, List.getElem?_cons_succ] at d0 d1 d2 d3 d4 d5 d6 d7 d8 d9 d10
                have e0 := hm.out.re.cell 0
                have e1 := hm.out.re.cell 1
                have e2 := hm.out.re.cell 2
                have e3 := hm.out.re.cell 3
                have e4 := hm.out.re.cell 4
                have e5 := hm.out.re.cell 5
                have e6 := hm.out.re.cell 6
                have e7 := hm.out.re.cell 7
                have e8 := hm.out.re.cell 8
                have e9 := hm.out.re.cell 9
                have e10 := hm.out.re.cell 10
                simp only [List.getElem?_toArray, List.getElem?_cons_zero, List.getElem?_cons_succ] at e0 e1 e2 e3 e4 e5 e6 e7 e8 e9 e10
                have fe0 := hm.out.re.frozen 0
                have fe1 := hm.out.re.frozen 1
                have fe2 := hm.out.re.frozen 2
                have fe3 := hm.out.re.frozen 3
                have fe4 := hm.out.re.frozen 4
                have fe5 := hm.out.re.frozen 5
                have fe6 := hm.out.re.frozen 6
                have fe7 := hm.out.re.frozen 7
                have fe8 := hm.out.re.frozen 8
                have fe9 := hm.out.re.frozen 9
                have fe10 := hm.out.re.frozen 10
                have HE : Hid (Blk (((((((((((wr.setCell ⟨s + 1, 0, none⟩ (.int .i64 kd)).setCell ⟨s + 1, 1, none⟩ (.int .i64 0)).setCell ⟨s + 1, 2, none⟩ (.int .i64 0)).setCell ⟨s + 1, 3, none⟩ (.int .i64 0)).setCell ⟨s + 1, 4, none⟩ (.bool false)).setCell ⟨s + 1, 5, none⟩ (.slice none 0 0)).setCell ⟨s + 1, 6, none⟩ (.int .i64 p1)).setCell ⟨s + 1, 7, none⟩ (.int .i64 p2)).setCell ⟨s + 1, 8, none⟩ (.int .i64 q1)).setCell ⟨s + 1, 9, none⟩ (.int .i64 q2)).setCell ⟨s + 1, 10, none⟩ (.int .i64 nv)) (s + 1) 32 #[.int .i64 kd, .int .i64 0, .int .i64 0, .int .i64 0, .bool false, .slice none 0 0, .int .i64 p1, .int .i64 p2, .int .i64 q1, .int .i64 q2, .int .i64 nv]) := blk_put11 hm.out.re (.int .i64 kd) (.int .i64 0) (.int .i64 0) (.int .i64 0) (.bool false) (.slice none 0 0) (.int .i64 p1) (.int .i64 p2) (.int .i64 q1) (.int .i64 q2) (.int .i64 nv)
                have hfE : Fr (fun b => b = s + 1) wr (((((((((((wr.setCell ⟨s + 1, 0, none⟩ (.int .i64 kd)).setCell ⟨s + 1, 1, none⟩ (.int .i64 0)).setCell ⟨s + 1, 2, none⟩ (.int .i64 0)).setCell ⟨s + 1, 3, none⟩ (.int .i64 0)).setCell ⟨s + 1, 4, none⟩ (.bool false)).setCell ⟨s + 1, 5, none⟩ (.slice none 0 0)).setCell ⟨s + 1, 6, none⟩ (.int .i64 p1)).setCell ⟨s + 1, 7, none⟩ (.int .i64 p2)).setCell ⟨s + 1, 8, none⟩ (.int .i64 q1)).setCell ⟨s + 1, 9, none⟩ (.int .i64 q2)).setCell ⟨s + 1, 10, none⟩ (.int .i64 nv)) := (fr_set1 (fr_set1 (fr_set1 (fr_set1 (fr_set1 (fr_set1 (fr_set1 (fr_set1 (fr_set1 (fr_set1 (fr_set1 (Fr.refl (fun b => b = s + 1) wr) (s + 1) 0 rfl (.int .i64 kd)) (s + 1) 1 rfl (.int .i64 0)) (s + 1) 2 rfl (.int .i64 0)) (s + 1) 3 rfl (.int .i64 0)) (s + 1) 4 rfl (.bool false)) (s + 1) 5 rfl (.slice none 0 0)) (s + 1) 6 rfl (.int .i64 p1)) (s + 1) 7 rfl (.int .i64 p2)) (s + 1) 8 rfl (.int .i64 q1)) (s + 1) 9 rfl (.int .i64 q2)) (s + 1) 10 rfl (.int .i64 nv))
                have hdn := hm.out.done (by have := HS.out; omega) HNl.out hfE
                have HD1 := Lib.hid hdn.1
                have HD2 := Lib.hid hdn.2
                clear hfE hdn
                go_wp2
                refine bodyPost_ret (results_cell_row rfl _ _ _ _ _ _ _ rfl HE.out Tryd.underlying32 rfl cmd_size) rfl ⟨_, rfl, ?_, HD2.out⟩
                rw [HM1.out]
                exact ⟨none, 0, rfl, Nat.le_refl _, fun h0 => absurd h0 (by simp), fun a ha => by cases ha⟩
          · have kx : ¬ (0 : Int) < (xn : Int) := by omega
            have hzn : (0 : Int) = nv := by rw [← HNV.out, if_neg h0n]
            subst hzn
            have H1 := HSt
            go_wp2
            go_loopw [60] (fun i wr => ∃ (k : Nat) (p q : Int × Int), k ≤ 2 ∧ i = .int .i64 k ∧ Hid (p = if 0 < k then ps.getD 0 (0, 0) else (0, 0)) ∧ Hid (q = if 1 < k then ps.getD 1 (0, 0) else (0, 0)) ∧ Hid (MdS w wr s ⟨wd, kd, op, fr, xn, xp⟩ #[.int .i64 kd, .int .i64 0, .int .i64 0, .int .i64 0, .bool false, .slice none 0 0, .int .i64 p.1, .int .i64 p.2, .int .i64 q.1, .int .i64 q.2, .int .i64 0] ps B)) (fun i _ => 2 - (intOf i).toNat)
            case atStart => exact ⟨0, (0, 0), (0, 0), by omega, rfl, by simp [Hid], by simp [Hid], H1.out⟩
            case round =>
              have i0 := fun a b w => idp0 a b w
              have i1 := fun a b w => idp1 a b w
              obtain ⟨k, p, q, hk2, rfl, hx1, hy1, hm⟩ := hrel
              obtain ⟨p1, p2⟩ := p
              obtain ⟨q1, q2⟩ := q
              dsimp only at hm
              have hswr := hm.out.cm.lt
              have hcase : k = 0 ∨ k = 1 ∨ k = 2 := by omega
              rcases hcase with rfl | rfl | rfl
              · by_cases hk0 : 0 < ps.length
                · obtain ⟨g', o', hB', hcc⟩ := hm.out.pt (by omega)
                  subst hB'
                  have hcv := hcc 0 _ (List.getElem?_eq_getElem hk0)
                  obtain ⟨z, hz⟩ : ∃ z, ps[0] = z := ⟨_, rfl⟩
                  rw [hz] at hcv
                  have HZ : Hid (ps.getD 0 (0, 0) = z) := by rw [← hz]; simp [Hid, List.getD, List.getElem?_eq_getElem hk0]
                  obtain ⟨z1, z2⟩ := z
                  obtain ⟨c0, c1⟩ := hcv
                  dsimp only at c0 c1
                  have hpp := cell_lt c0
                  dsimp only at hpp
                  rw [Nat.zero_mul, Nat.add_zero] at c0 c1
                  have kx : (0 : Int) < (ps.length : Int) := by omega
                  have d6 := hm.out.cm.cell 6
                  have d7 := hm.out.cm.cell 7
                  simp only [List.getElem?_toArray, List.getElem?_cons_zero, List.getElem?_cons_succ] at d6 d7
                  have fd6 := hm.out.cm.frozen 6
                  have fd7 := hm.out.cm.frozen 7
                  have H2 := Lib.hid ((hm.out.set (by have := HS.out; omega) HNe.out 6 (.int .i64 z1)).set (by have := HS.out; omega) HNe.out 7 (.int .i64 z2))
                  clear hz hm hcc
                  go_wp2
                  go_roundw
                  case rel => exact ⟨1, (z1, z2), (q1, q2), by omega, by go_num, by rw [HZ.out]; simp [Hid], by have := hy1.out; simp at this; simp [Hid, this], H2.out⟩
                  case measure => simp [intOf]
                · have kx : ¬ (0 : Int) < (ps.length : Int) := by omega
                  have HZ : Hid (ps.getD 0 (0, 0) = (0, 0)) := by simp [Hid, List.getD, List.getElem?_eq_none (Nat.le_of_not_lt hk0)]
                  go_wp2
                  go_roundw
                  case rel => exact ⟨1, (p1, p2), (q1, q2), by omega, by go_num, by rw [HZ.out]; have := hx1.out; simp at this; simp [Hid, this], by have := hy1.out; simp at this; simp [Hid, this], hm.out⟩
                  case measure => simp [intOf]
              · by_cases hk0 : 1 < ps.length
                · obtain ⟨g', o', hB', hcc⟩ := hm.out.pt (by omega)
                  subst hB'
                  have hcv := hcc 1 _ (List.getElem?_eq_getElem hk0)
                  obtain ⟨z, hz⟩ : ∃ z, ps[1] = z := ⟨_, rfl⟩
                  rw [hz] at hcv
                  have HZ : Hid (ps.getD 1 (0, 0) = z) := by rw [← hz]; simp [Hid, List.getD, List.getElem?_eq_getElem hk0]
                  obtain ⟨z1, z2⟩ := z
                  obtain ⟨c0, c1⟩ := hcv
                  dsimp only at c0 c1
                  have hpp := cell_lt c0
                  dsimp only at hpp
                  rw [Nat.one_mul] at c0 c1
                  have kx : (1 : Int) < (ps.length : Int) := by omega
                  have d8 := hm.out.cm.cell 8
                  have d9 := hm.out.cm.cell 9
                  simp only [List.getElem?_toArray, List.getElem?_cons_zero, List.getElem?_cons_succ] at d8 d9
                  have fd8 := hm.out.cm.frozen 8
                  have fd9 := hm.out.cm.frozen 9
                  have H2 := Lib.hid ((hm.out.set (by have := HS.out; omega) HNe.out 8 (.int .i64 z1)).set (by have := HS.out; omega) HNe.out 9 (.int .i64 z2))
                  clear hz hm hcc
                  go_wp2
                  go_roundw
                  case rel => exact ⟨2, (p1, p2), (z1, z2), by omega, by go_num, by have := hx1.out; simp at this; simp [Hid, this], by rw [HZ.out]; simp [Hid], H2.out⟩
                  case measure => simp [intOf]
                · have kx : ¬ (1 : Int) < (ps.length : Int) := by omega
                  have HZ : Hid (ps.getD 1 (0, 0) = (0, 0)) := by simp [Hid, List.getD, List.getElem?_eq_none (Nat.le_of_not_lt hk0)]
                  go_wp2
                  go_roundw
                  case rel => exact ⟨2, (p1, p2), (q1, q2), by omega, by go_num, by have := hx1.out; simp at this; simp [Hid, this], by rw [HZ.out]; have := hy1.out; simp at this; simp [Hid, this], hm.out⟩
                  case measure => simp [intOf]
              · have hxx : (p1, p2) = ps.getD 0 (0, 0) := by have := hx1.out; rw [if_pos (by omega)] at this; exact this
                have hyy : (q1, q2) = ps.getD 1 (0, 0) := by have := hy1.out; rw [if_pos (by omega)] at this; exact this
                have HM1 : Hid (M = { kind := kd, n := 0, p := (p1, p2), q := (q1, q2) }) := by have := HMd.out; rw [if_neg hk, HNV.out, ← hxx, ← hyy] at this; exact this
                clear hxx hyy hx1 hy1
                have d0 := hm.out.cm.cell 0
                have d1 := hm.out.cm.cell 1
                have d2 := hm.out.cm.cell 2
                have d3 := hm.out.cm.cell 3
                have d4 := hm.out.cm.cell 4
                have d5 := hm.out.cm.cell 5
                have d6 := hm.out.cm.cell 6
                have d7 := hm.out.cm.cell 7
                have d8 := hm.out.cm.cell 8
                have d9 := hm.out.cm.cell 9
                have d10 := hm.out.cm.cell 10
                simp only [List.getElem?_toArray, List.getElem?_cons_zero, List.getElem?_cons_succ] at d0 d1 d2 d3 d4 d5 d6 d7 d8 d9 d10
                have e0 := hm.out.re.cell 0
                have e1 := hm.out.re.cell 1
                have e2 := hm.out.re.cell 2
                have e3 := hm.out.re.cell 3
                have e4 := hm.out.re.cell 4
                have e5 := hm.out.re.cell 5
                have e6 := hm.out.re.cell 6
                have e7 := hm.out.re.cell 7
                have e8 := hm.out.re.cell 8
                have e9 := hm.out.re.cell 9
                have e10 := hm.out.re.cell 10
                simp only [List.getElem?_toArray, List.getElem?_cons_zero, List.getElem?_cons_succ] at e0 e1 e2 e3 e4 e5 e6 e7 e8 e9 e10
                have fe0 := hm.out.re.frozen 0
                have fe1 := hm.out.re.frozen 1
                have fe2 := hm.out.re.frozen 2
                have fe3 := hm.out.re.frozen 3
                have fe4 := hm.out.re.frozen 4
                have fe5 := hm.out.re.frozen 5
                have fe6 := hm.out.re.frozen 6
                have fe7 := hm.out.re.frozen 7
                have fe8 := hm.out.re.frozen 8
                have fe9 := hm.out.re.frozen 9
                have fe10 := hm.out.re.frozen 10
                have HE : Hid (Blk (((((((((((wr.setCell ⟨s + 1, 0, none⟩ (.int .i64 kd)).setCell ⟨s + 1, 1, none⟩ (.int .i64 0)).setCell ⟨s + 1, 2, none⟩ (.int .i64 0)).setCell ⟨s + 1, 3, none⟩ (.int .i64 0)).setCell ⟨s + 1, 4, none⟩ (.bool false)).setCell ⟨s + 1, 5, none⟩ (.slice none 0 0)).setCell ⟨s + 1, 6, none⟩ (.int .i64 p1)).setCell ⟨s + 1, 7, none⟩ (.int .i64 p2)).setCell ⟨s + 1, 8, none⟩ (.int .i64 q1)).setCell ⟨s + 1, 9, none⟩ (.int .i64 q2)).setCell ⟨s + 1, 10, none⟩ (.int .i64 0)) (s + 1) 32 #[.int .i64 kd, .int .i64 0, .int .i64 0, .int .i64 0, .bool false, .slice none 0 0, .int .i64 p1, .int .i64 p2, .int .i64 q1, .int .i64 q2, .int .i64 0]) := blk_put11 hm.out.re (.int .i64 kd) (.int .i64 0) (.int .i64 0) (.int .i64 0) (.bool false) (.slice none 0 0) (.int .i64 p1) (.int .i64 p2) (.int .i64 q1) (.int .i64 q2) (.int .i64 0)
                have hfE : Fr (fun b => b = s + 1) wr (((((((((((wr.setCell ⟨s + 1, 0, none⟩ (.int .i64 kd)).setCell ⟨s + 1, 1, none⟩ (.int .i64 0)).setCell ⟨s + 1, 2, none⟩ (.int .i64 0)).setCell ⟨s + 1, 3, none⟩ (.int .i64 0)).setCell ⟨s + 1, 4, none⟩ (.bool false)).setCell ⟨s + 1, 5, none⟩ (.slice none 0 0)).setCell ⟨s + 1, 6, none⟩ (.int .i64 p1)).setCell ⟨s + 1, 7, none⟩ (.int .i64 p2)).setCell ⟨s + 1, 8, none⟩ (.int .i64 q1)).setCell ⟨s + 1, 9, none⟩ (.int .i64 q2)).setCell ⟨s + 1, 10, none⟩ (.int .i64 0)) := (fr_set1 (fr_set1 (fr_set1 (fr_set1 (fr_set1 (fr_set1 (fr_set1 (fr_set1 (fr_set1 (fr_set1 (fr_set1 (Fr.refl (fun b => b = s + 1) wr) (s + 1) 0 rfl (.int .i64 kd)) (s + 1) 1 rfl (.int .i64 0)) (s + 1) 2 rfl (.int .i64 0)) (s + 1) 3 rfl (.int .i64 0)) (s + 1) 4 rfl (.bool false)) (s + 1) 5 rfl (.slice none 0 0)) (s + 1) 6 rfl (.int .i64 p1)) (s + 1) 7 rfl (.int .i64 p2)) (s + 1) 8 rfl (.int .i64 q1)) (s + 1) 9 rfl (.int .i64 q2)) (s + 1) 10 rfl (.int .i64 0))
                have hdn := hm.out.done (by have := HS.out; omega) HNl.out hfE
                have HD1 := Lib.hid hdn.1
                have HD2 := Lib.hid hdn.2
                clear hfE hdn
                go_wp2
                refine bodyPost_ret (results_cell_row rfl _ _ _ _ _ _ _ rfl HE.out Tryd.underlying32 rfl cmd_size) rfl ⟨_, rfl, ?_, HD2.out⟩
                rw [HM1.out]
                exact ⟨none, 0, rfl, Nat.le_refl _, fun h0 => absurd h0 (by simp), fun a ha => by cases ha⟩
    · have hcz' : 0 < cp - xn := by omega
      go_wp2_with fail
      refine (HQ.out _ _ _ (HI1.out _ HW0.out)).mono ?_
      rintro e w1 ⟨B, rfl, hB, hbb, hf1⟩
      have hst := HB3.out w1 hf1 B hB
      have HNl : Hid (∀ a, B = some a → w.heap.size + 1 + 1 < a.block) := fun a ha => by have := hbb a ha; simp at this; omega
      have HNe : Hid (∀ a, B = some a → 0 < ps.length → a.block ≠ w.heap.size + 1 + 1) := fun a ha _ => by have := HNl.out a ha; omega
      have hsl : w.heap.size + 1 + 1 < w1.heap.size := hst.cm.lt
      clear hB hbb hf1 HQ HB3 HW0
      obtain ⟨s, hs⟩ : ∃ s, w.heap.size = s := ⟨_, rfl⟩
      have HS := Lib.hid hs
      rw [hs] at hst HNe HNl hsl ⊢
      clear hs
      have HSt := Lib.hid hst
      clear hst
      by_cases hk : kd = 1
      · subst hk
        have b1 := HSt.out.sh.cell 1
        have b2 := HSt.out.sh.cell 2
        have b3 := HSt.out.sh.cell 3
        have b4 := HSt.out.sh.cell 4
        simp only [List.getElem?_toArray, List.getElem?_cons_zero, List.getElem?_cons_succ] at b1 b2 b3 b4
        have d1 := HSt.out.cm.cell 1
        have d2 := HSt.out.cm.cell 2
        have d3 := HSt.out.cm.cell 3
        have d4 := HSt.out.cm.cell 4
        have d5 := HSt.out.cm.cell 5
        simp only [List.getElem?_toArray, List.getElem?_cons_zero, List.getElem?_cons_succ] at d1 d2 d3 d4 d5
        have fd1 := HSt.out.cm.frozen 1
        have fd2 := HSt.out.cm.frozen 2
        have fd3 := HSt.out.cm.frozen 3
        have fd4 := HSt.out.cm.frozen 4
        have fd5 := HSt.out.cm.frozen 5
        have H1 := Lib.hid (((((HSt.out.set (by have := HS.out; omega) HNe.out 1 (.int .i64 op)).set (by have := HS.out; omega) HNe.out 2 (.int .i64 0)).set (by have := HS.out; omega) HNe.out 3 (.int .i64 0)).set (by have := HS.out; omega) HNe.out 4 (.bool fr)).set (by have := HS.out; omega) HNe.out 5 (.slice B ps.length ps.length))
        go_wp2
        go_loopw [34] (fun i wr => ∃ (k : Nat) (x y : Int), k ≤ 2 ∧ i = .int .i64 k ∧ Hid (x = if 0 < xn ∧ 0 < k then l.getD 0 0 else 0) ∧ Hid (y = if 1 < xn ∧ 1 < k then l.getD 1 0 else 0) ∧ Hid (MdS w wr s ⟨wd, 1, op, fr, xn, xp⟩ #[.int .i64 1, .int .i64 op, .int .i64 x, .int .i64 y, .bool fr, .slice B ps.length ps.length, .int .i64 0, .int .i64 0, .int .i64 0, .int .i64 0, .int .i64 0] ps B)) (fun i _ => 2 - (intOf i).toNat)
        case atStart => exact ⟨0, 0, 0, by omega, rfl, by simp [Hid], by simp [Hid], H1.out⟩
        case round =>
          have i0 := fun a b w => idx0 a b w
          have i1 := fun a b w => idx1 a b w
          obtain ⟨k, x, y, hk2, rfl, hx1, hy1, hm⟩ := hrel
          have hswr := hm.out.cm.lt
          have b4 := hm.out.sh.cell 4
          simp only [List.getElem?_toArray, List.getElem?_cons_zero, List.getElem?_cons_succ] at b4
          have hcase : k = 0 ∨ k = 1 ∨ k = 2 := by omega
          rcases hcase with rfl | rfl | rfl
          · by_cases hk0 : 0 < xn
            · obtain ⟨g', z, hA', hz, hW⟩ := HLd.out 0 hk0
              cases hA'
              have c0 := hW wr hm.out.fr
              have hpp := cell_lt c0
              have kx : (0 : Int) < (xn : Int) := by omega
              have kN : (0 : Int) < (N : Int) := by omega
              have d2 := hm.out.cm.cell 2
              simp only [List.getElem?_toArray, List.getElem?_cons_zero, List.getElem?_cons_succ] at d2
              have fd2 := hm.out.cm.frozen 2
              have H2 := Lib.hid (hm.out.set (by have := HS.out; omega) HNe.out 2 (.int .i64 z))
              have HZ := Lib.hid hz
              clear hz hW hm
              go_wp2
              go_roundw
              case rel => exact ⟨1, z, y, by omega, by go_num, by rw [HZ.out.symm]; simp [Hid, hk0], by have := hy1.out; simp at this; simp [Hid, this], H2.out⟩
              case measure => simp [intOf]
            · have kx : ¬ (0 : Int) < (xn : Int) := by omega
              go_wp2
              go_roundw
              case rel => exact ⟨1, x, y, by omega, by go_num, by have := hx1.out; simp [hk0] at this; simp [Hid, hk0, this], by have := hy1.out; simp at this; simp [Hid, this], hm.out⟩
              case measure => simp [intOf]
          · by_cases hk0 : 1 < xn
            · obtain ⟨g', z, hA', hz, hW⟩ := HLd.out 1 hk0
              cases hA'
              have c0 := hW wr hm.out.fr
              have hpp := cell_lt c0
              have kx : (1 : Int) < (xn : Int) := by omega
              have kN : (1 : Int) < (N : Int) := by omega
              have d3 := hm.out.cm.cell 3
              simp only [List.getElem?_toArray, List.getElem?_cons_zero, List.getElem?_cons_succ] at d3
              have fd3 := hm.out.cm.frozen 3
              have H2 := Lib.hid (hm.out.set (by have := HS.out; omega) HNe.out 3 (.int .i64 z))
              have HZ := Lib.hid hz
              clear hz hW hm
              go_wp2
              go_roundw
              case rel => exact ⟨2, x, z, by omega, by go_num, by have := hx1.out; simp at this; simp [Hid, this], by rw [HZ.out.symm]; simp [Hid, hk0], H2.out⟩
              case measure => simp [intOf]
            · have kx : ¬ (1 : Int) < (xn : Int) := by omega
              go_wp2
              go_roundw
              case rel => exact ⟨2, x, y, by omega, by go_num, by have := hx1.out; simp at this; simp [Hid, this], by have := hy1.out; simp [hk0] at this; simp [Hid, hk0, this], hm.out⟩
              case measure => simp [intOf]
          · have hxx : x = if 0 < xn then l.getD 0 0 else 0 := by have := hx1.out; simpa using this
            have hyy : y = if 1 < xn then l.getD 1 0 else 0 := by have := hy1.out; simpa using this
            have HM1 : Hid (M = { kind := 1, op := op, fresh := fr, a := x, b := y, line := ps }) := by rw [hxx, hyy]; have := HMd.out; simpa [Hid] using this
            clear hxx hyy hx1 hy1
            have d0 := hm.out.cm.cell 0
            have d1 := hm.out.cm.cell 1
            have d2 := hm.out.cm.cell 2
            have d3 := hm.out.cm.cell 3
            have d4 := hm.out.cm.cell 4
            have d5 := hm.out.cm.cell 5
            have d6 := hm.out.cm.cell 6
            have d7 := hm.out.cm.cell 7
            have d8 := hm.out.cm.cell 8
            have d9 := hm.out.cm.cell 9
            have d10 := hm.out.cm.cell 10
            simp only [List.getElem?_toArray, List.getElem?_cons_zero, List.getElem?_cons_succ] at d0 d1 d2 d3 d4 d5 d6 d7 d8 d9 d10
            have e0 := hm.out.re.cell 0
            have e1 := hm.out.re.cell 1
            have e2 := hm.out.re.cell 2
            have e3 := hm.out.re.cell 3
            have e4 := hm.out.re.cell 4
            have e5 := hm.out.re.cell 5
            have e6 := hm.out.re.cell 6
            have e7 := hm.out.re.cell 7
            have e8 := hm.out.re.cell 8
            have e9 := hm.out.re.cell 9
            have e10 := hm.out.re.cell 10
            simp only [List.getElem?_toArray, List.getElem?_cons_zero, List.getElem?_cons_succ] at e0 e1 e2 e3 e4 e5 e6 e7 e8 e9 e10
            have fe0 := hm.out.re.frozen 0
            have fe1 := hm.out.re.frozen 1
            have fe2 := hm.out.re.frozen 2
            have fe3 := hm.out.re.frozen 3
            have fe4 := hm.out.re.frozen 4
            have fe5 := hm.out.re.frozen 5
            have fe6 := hm.out.re.frozen 6
            have fe7 := hm.out.re.frozen 7
            have fe8 := hm.out.re.frozen 8
            have fe9 := hm.out.re.frozen 9
            have fe10 := hm.out.re.frozen 10
            have HE : Hid (Blk (((((((((((wr.setCell ⟨s + 1, 0, none⟩ (.int .i64 1)).setCell ⟨s + 1, 1, none⟩ (.int .i64 op)).setCell ⟨s + 1, 2, none⟩ (.int .i64 x)).setCell ⟨s + 1, 3, none⟩ (.int .i64 y)).setCell ⟨s + 1, 4, none⟩ (.bool fr)).setCell ⟨s + 1, 5, none⟩ (.slice B ps.length ps.length)).setCell ⟨s + 1, 6, none⟩ (.int .i64 0)).setCell ⟨s + 1, 7, none⟩ (.int .i64 0)).setCell ⟨s + 1, 8, none⟩ (.int .i64 0)).setCell ⟨s + 1, 9, none⟩ (.int .i64 0)).setCell ⟨s + 1, 10, none⟩ (.int .i64 0)) (s + 1) 32 #[.int .i64 1, .int .i64 op, .int .i64 x, .int .i64 y, .bool fr, .slice B ps.length ps.length, .int .i64 0, .int .i64 0, .int .i64 0, .int .i64 0, .int .i64 0]) := blk_put11 hm.out.re (.int .i64 1) (.int .i64 op) (.int .i64 x) (.int .i64 y) (.bool fr) (.slice B ps.length ps.length) (.int .i64 0) (.int .i64 0) (.int .i64 0) (.int .i64 0) (.int .i64 0)
            have hfE : Fr (fun b => b = s + 1) wr (((((((((((wr.setCell ⟨s + 1, 0, none⟩ (.int .i64 1)).setCell ⟨s + 1, 1, none⟩ (.int .i64 op)).setCell ⟨s + 1, 2, none⟩ (.int .i64 x)).setCell ⟨s + 1, 3, none⟩ (.int .i64 y)).setCell ⟨s + 1, 4, none⟩ (.bool fr)).setCell ⟨s + 1, 5, none⟩ (.slice B ps.length ps.length)).setCell ⟨s + 1, 6, none⟩ (.int .i64 0)).setCell ⟨s + 1, 7, none⟩ (.int .i64 0)).setCell ⟨s + 1, 8, none⟩ (.int .i64 0)).setCell ⟨s + 1, 9, none⟩ (.int .i64 0)).setCell ⟨s + 1, 10, none⟩ (.int .i64 0)) := (fr_set1 (fr_set1 (fr_set1 (fr_set1 (fr_set1 (fr_set1 (fr_set1 (fr_set1 (fr_set1 (fr_set1 (fr_set1 (Fr.refl (fun b => b = s + 1) wr) (s + 1) 0 rfl (.int .i64 1)) (s + 1) 1 rfl (.int .i64 op)) (s + 1) 2 rfl (.int .i64 x)) (s + 1) 3 rfl (.int .i64 y)) (s + 1) 4 rfl (.bool fr)) (s + 1) 5 rfl (.slice B ps.length ps.length)) (s + 1) 6 rfl (.int .i64 0)) (s + 1) 7 rfl (.int .i64 0)) (s + 1) 8 rfl (.int .i64 0)) (s + 1) 9 rfl (.int .i64 0)) (s + 1) 10 rfl (.int .i64 0))
            have hdn := hm.out.done (by have := HS.out; omega) HNl.out hfE
            have HD1 := Lib.hid hdn.1
            have HD2 := Lib.hid hdn.2
            clear hfE hdn
            go_wp2
            refine bodyPost_ret (results_cell_row rfl _ _ _ _ _ _ _ rfl HE.out Tryd.underlying32 rfl cmd_size) rfl ⟨_, rfl, ?_, HD2.out⟩
            rw [HM1.out]
            exact ⟨B, ps.length, rfl, Nat.le_refl _, HD1.out, fun a ha _ => by have := HNl.out a ha; have := HS.out; omega⟩
      · have b1 := HSt.out.sh.cell 1
        have b4 := HSt.out.sh.cell 4
        simp only [List.getElem?_toArray, List.getElem?_cons_zero, List.getElem?_cons_succ] at b1 b4
        have d10 := HSt.out.cm.cell 10
        simp only [List.getElem?_toArray, List.getElem?_cons_zero, List.getElem?_cons_succ] at d10
        have fd10 := HSt.out.cm.frozen 10
        have HNv : Hid (∃ nv : Int, (if 0 < xn then l.getD 0 0 else 0) = nv) := ⟨_, rfl⟩
        obtain ⟨nv, hnv⟩ := HNv
        have HNV := Lib.hid hnv
        clear hnv
        by_cases h0n : 0 < xn
        · obtain ⟨g', z, hA', hz, hW⟩ := HLd.out 0 h0n
          cases hA'
          have hzn : nv = z := by rw [← HNV.out, if_pos h0n, hz]
          subst hzn
          have c0 := hW w1 HSt.out.fr
          have hpp := cell_lt c0
          have kx : (0 : Int) < (xn : Int) := by omega
          have kN : (0 : Int) < (N : Int) := by omega
          have H1 := Lib.hid (HSt.out.set (by have := HS.out; omega) HNe.out 10 (.int .i64 nv))
          clear hz hW
          go_wp2
          go_loopw [60] (fun i wr => ∃ (k : Nat) (p q : Int × Int), k ≤ 2 ∧ i = .int .i64 k ∧ Hid (p = if 0 < k then ps.getD 0 (0, 0) else (0, 0)) ∧ Hid (q = if 1 < k then ps.getD 1 (0, 0) else (0, 0)) ∧ Hid (MdS w wr s ⟨wd, kd, op, fr, xn, xp⟩ #[.int .i64 kd, .int .i64 0, .int .i64 0, .int .i64 0, .bool false, .slice none 0 0, .int .i64 p.1, .int .i64 p.2, .int .i64 q.1, .int .i64 q.2, .int .i64 nv] ps B)) (fun i _ => 2 - (intOf i).toNat)
          case atStart => exact ⟨0, (0, 0), (0, 0), by omega, rfl, by simp [Hid], by simp [Hid], H1.out⟩
          case round =>
            have i0 := fun a b w => idp0 a b w
            have i1 := fun a b w => idp1 a b w
            obtain ⟨k, p, q, hk2, rfl, hx1, hy1, hm⟩ := hrel
            obtain ⟨p1, p2⟩ := p
            obtain ⟨q1, q2⟩ := q
            dsimp only at hm
            have hswr := hm.out.cm.lt
            have hcase : k = 0 ∨ k = 1 ∨ k = 2 := by omega
            rcases hcase with rfl | rfl | rfl
            · by_cases hk0 : 0 < ps.length
              · obtain ⟨g', o', hB', hcc⟩ := hm.out.pt (by omega)
                subst hB'
                have hcv := hcc 0 _ (List.getElem?_eq_getElem hk0)
                obtain ⟨z, hz⟩ : ∃ z, ps[0] = z := ⟨_, rfl⟩
                rw [hz] at hcv
                have HZ : Hid (ps.getD 0 (0, 0) = z) := by rw [← hz]; simp [Hid, List.getD, List.getElem?_eq_getElem hk0]
                obtain ⟨z1, z2⟩ := z
                obtain ⟨c0, c1⟩ := hcv
                dsimp only at c0 c1
                have hpp := cell_lt c0
                dsimp only at hpp
                rw [Nat.zero_mul, Nat.add_zero] at c0 c1
                have kx : (0 : Int) < (ps.length : Int) := by omega
                have d6 := hm.out.cm.cell 6
                have d7 := hm.out.cm.cell 7
                simp only [List.getElem?_toArray, List.getElem?_cons_zero, List.getElem?_cons_succ] at d6 d7
                have fd6 := hm.out.cm.frozen 6
                have fd7 := hm.out.cm.frozen 7
                have H2 := Lib.hid ((hm.out.set (by have := HS.out; omega) HNe.out 6 (.int .i64 z1)).set (by have := HS.out; omega) HNe.out 7 (.int .i64 z2))
                clear hz hm hcc
                go_wp2
                go_roundw
                case rel => exact ⟨1, (z1, z2), (q1, q2), by omega, by go_num, by rw [HZ.out]; simp [Hid], by have := hy1.out; simp at this; simp [Hid, this], H2.out⟩
                case measure => simp [intOf]
              · have kx : ¬ (0 : Int) < (ps.length : Int) := by omega
                have HZ : Hid (ps.getD 0 (0, 0) = (0, 0)) := by simp [Hid, List.getD, List.getElem?_eq_none (Nat.le_of_not_lt hk0)]
                go_wp2
                go_roundw
                case rel => exact ⟨1, (p1, p2), (q1, q2), by omega, by go_num, by rw [HZ.out]; have := hx1.out; simp at this; simp [Hid, this], by have := hy1.out; simp at this; simp [Hid, this], hm.out⟩
                case measure => simp [intOf]
            · by_cases hk0 : 1 < ps.length
              · obtain ⟨g', o', hB', hcc⟩ := hm.out.pt (by omega)
                subst hB'
                have hcv := hcc 1 _ (List.getElem?_eq_getElem hk0)
                obtain ⟨z, hz⟩ : ∃ z, ps[1] = z := ⟨_, rfl⟩
                rw [hz] at hcv
                have HZ : Hid (ps.getD 1 (0, 0) = z) := by rw [← hz]; simp [Hid, List.getD, List.getElem?_eq_getElem hk0]
                obtain ⟨z1, z2⟩ := z
                obtain ⟨c0, c1⟩ := hcv
                dsimp only at c0 c1
                have hpp := cell_lt c0
                dsimp only at hpp
                rw [Nat.one_mul] at c0 c1
                have kx : (1 : Int) < (ps.length : Int) := by omega
                have d8 := hm.out.cm.cell 8
                have d9 := hm.out.cm.cell 9
                simp only [List.getElem?_toArray, List.getElem?_cons_zero, List.getElem?_cons_succ] at d8 d9
                have fd8 := hm.out.cm.frozen 8
                have fd9 := hm.out.cm.frozen 9
                have H2 := Lib.hid ((hm.out.set (by have := HS.out; omega) HNe.out 8 (.int .i64 z1)).set (by have := HS.out; omega) HNe.out 9 (.int .i64 z2))
                clear hz hm hcc
                go_wp2
                go_roundw
                case rel => exact ⟨2, (p1, p2), (z1, z2), by omega, by go_num, by have := hx1.out; simp at this; simp [Hid, this], by rw [HZ.out]; simp [Hid], H2.out⟩
                case measure => simp [intOf]
              · have kx : ¬ (1 : Int) < (ps.length : Int) := by omega
                have HZ : Hid (ps.getD 1 (0, 0) = (0, 0)) := by simp [Hid, List.getD, List.getElem?_eq_none (Nat.le_of_not_lt hk0)]
                go_wp2
                go_roundw
                case rel => exact ⟨2, (p1, p2), (q1, q2), by omega, by go_num, by have := hx1.out; simp at this; simp [Hid, this], by rw [HZ.out]; have := hy1.out; simp at this; simp [Hid, this], hm.out⟩
                case measure => simp [intOf]
            · have hxx : (p1, p2) = ps.getD 0 (0, 0) := by have := hx1.out; rw [if_pos (by omega)] at this; exact this
              have hyy : (q1, q2) = ps.getD 1 (0, 0) := by have := hy1.out; rw [if_pos (by omega)] at this; exact this
              have HM1 : Hid (M = { kind := kd, n := nv, p := (p1, p2), q := (q1, q2) }) := by have := HMd.out; rw [if_neg hk, HNV.out, ← hxx, ← hyy] at this; exact this
              clear hxx hyy hx1 hy1
              have d0 := hm.out.cm.cell 0
              have d1 := hm.out.cm.cell 1
              have d2 := hm.out.cm.cell 2
              have d3 := hm.out.cm.cell 3
              have d4 := hm.out.cm.cell 4
              have d5 := hm.out.cm.cell 5
              have d6 := hm.out.cm.cell 6
              have d7 := hm.out.cm.cell 7
              have d8 := hm.out.cm.cell 8
              have d9 := hm.out.cm.cell 9
              have d10 := hm.out.cm.cell 10
              simp only [List.getElem?_toArray, List.getElem?_cons_zero, List.getElem?_cons_succ] at d0 d1 d2 d3 d4 d5 d6 d7 d8 d9 d10
              have e0 := hm.out.re.cell 0
              have e1 := hm.out.re.cell 1
              have e2 := hm.out.re.cell 2
              have e3 := hm.out.re.cell 3
              have e4 := hm.out.re.cell 4
              have e5 := hm.out.re.cell 5
              have e6 := hm.out.re.cell 6
              have e7 := hm.out.re.cell 7
              have e8 := hm.out.re.cell 8
              have e9 := hm.out.re.cell 9
              have e10 := hm.out.re.cell 10
              simp only [List.getElem?_toArray, List.getElem?_cons_zero, List.getElem?_cons_succ] at e0 e1 e2 e3 e4 e5 e6 e7 e8 e9 e10
              have fe0 := hm.out.re.frozen 0
              have fe1 := hm.out.re.frozen 1
              have fe2 := hm.out.re.frozen 2
              have fe3 := hm.out.re.frozen 3
              have fe4 := hm.out.re.frozen 4
              have fe5 := hm.out.re.frozen 5
              have fe6 := hm.out.re.frozen 6
              have fe7 := hm.out.re.frozen 7
              have fe8 := hm.out.re.frozen 8
              have fe9 := hm.out.re.frozen 9
              have fe10 := hm.out.re.frozen 10
              have HE : Hid (Blk (((((((((((wr.setCell ⟨s + 1, 0, none⟩ (.int .i64 kd)).setCell ⟨s + 1, 1, none⟩ (.int .i64 0)).setCell ⟨s + 1, 2, none⟩ (.int .i64 0)).setCell ⟨s + 1, 3, none⟩ (.int .i64 0)).setCell ⟨s + 1, 4, none⟩ (.bool false)).setCell ⟨s + 1, 5, none⟩ (.slice none 0 0)).setCell ⟨s + 1, 6, none⟩ (.int .i64 p1)).setCell ⟨s + 1, 7, none⟩ (.int .i64 p2)).setCell ⟨s + 1, 8, none⟩ (.int .i64 q1)).setCell ⟨s + 1, 9, none⟩ (.int .i64 q2)).setCell ⟨s + 1, 10, none⟩ (.int .i64 nv)) (s + 1) 32 #[.int .i64 kd, .int .i64 0, .int .i64 0, .int .i64 0, .bool false, .slice none 0 0, .int .i64 p1, .int .i64 p2, .int .i64 q1, .int .i64 q2, .int .i64 nv]) := blk_put11 hm.out.re (.int .i64 kd) (.int .i64 0) (.int .i64 0) (.int .i64 0) (.bool false) (.slice none 0 0) (.int .i64 p1) (.int .i64 p2) (.int .i64 q1) (.int .i64 q2) (.int .i64 nv)
              have hfE : Fr (fun b => b = s + 1) wr (((((((((((wr.setCell ⟨s + 1, 0, none⟩ (.int .i64 kd)).setCell ⟨s + 1, 1, none⟩ (.int .i64 0)).setCell ⟨s + 1, 2, none⟩ (.int .i64 0)).setCell ⟨s + 1, 3, none⟩ (.int .i64 0)).setCell ⟨s + 1, 4, none⟩ (.bool false)).setCell ⟨s + 1, 5, none⟩ (.slice none 0 0)).setCell ⟨s + 1, 6, none⟩ (.int .i64 p1)).setCell ⟨s + 1, 7, none⟩ (.int .i64 p2)).setCell ⟨s + 1, 8, none⟩ (.int .i64 q1)).setCell ⟨s + 1, 9, none⟩ (.int .i64 q2)).setCell ⟨s + 1, 10, none⟩ (.int .i64 nv)) := (fr_set1 (fr_set1 (fr_set1 (fr_set1 (fr_set1 (fr_set1 (fr_set1 (fr_set1 (fr_set1 (fr_set1 (fr_set1 (Fr.refl (fun b => b = s + 1) wr) (s + 1) 0 rfl (.int .i64 kd)) (s + 1) 1 rfl (.int .i64 0)) (s + 1) 2 rfl (.int .i64 0)) (s + 1) 3 rfl (.int .i64 0)) (s + 1) 4 rfl (.bool false)) (s + 1) 5 rfl (.slice none 0 0)) (s + 1) 6 rfl (.int .i64 p1)) (s + 1) 7 rfl (.int .i64 p2)) (s + 1) 8 rfl (.int .i64 q1)) (s + 1) 9 rfl (.int .i64 q2)) (s + 1) 10 rfl (.int .i64 nv))
              have hdn := hm.out.done (by have := HS.out; omega) HNl.out hfE
              have HD1 := Lib.hid hdn.1
              have HD2 := Lib.hid hdn.2
              clear hfE hdn
              go_wp2
              refine bodyPost_ret (results_cell_row rfl _ _ _ _ _ _ _ rfl HE.out Tryd.underlying32 rfl cmd_size) rfl ⟨_, rfl, ?_, HD2.out⟩
              rw [HM1.out]
              exact ⟨none, 0, rfl, Nat.le_refl _, fun h0 => absurd h0 (by simp), fun a ha => by cases ha⟩
        · have kx : ¬ (0 : Int) < (xn : Int) := by omega
          have hzn : (0 : Int) = nv := by rw [← HNV.out, if_neg h0n]
          subst hzn
          have H1 := HSt
          go_wp2
          go_loopw [60] (fun i wr => ∃ (k : Nat) (p q : Int × Int), k ≤ 2 ∧ i = .int .i64 k ∧ Hid (p = if 0 < k then ps.getD 0 (0, 0) else (0, 0)) ∧ Hid (q = if 1 < k then ps.getD 1 (0, 0) else (0, 0)) ∧ Hid (MdS w wr s ⟨wd, kd, op, fr, xn, xp⟩ #[.int .i64 kd, .int .i64 0, .int .i64 0, .int .i64 0, .bool false, .slice none 0 0, .int .i64 p.1, .int .i64 p.2, .int .i64 q.1, .int .i64 q.2, .int .i64 0] ps B)) (fun i _ => 2 - (intOf i).toNat)
          case atStart => exact ⟨0, (0, 0), (0, 0), by omega, rfl, by simp [Hid], by simp [Hid], H1.out⟩
          case round =>
            have i0 := fun a b w => idp0 a b w
            have i1 := fun a b w => idp1 a b w
            obtain ⟨k, p, q, hk2, rfl, hx1, hy1, hm⟩ := hrel
            obtain ⟨p1, p2⟩ := p
            obtain ⟨q1, q2⟩ := q
            dsimp only at hm
            have hswr := hm.out.cm.lt
            have hcase : k = 0 ∨ k = 1 ∨ k = 2 := by omega
            rcases hcase with rfl | rfl | rfl
            · by_cases hk0 : 0 < ps.length
              · obtain ⟨g', o', hB', hcc⟩ := hm.out.pt (by omega)
                subst hB'
                have hcv := hcc 0 _ (List.getElem?_eq_getElem hk0)
                obtain ⟨z, hz⟩ : ∃ z, ps[0] = z := ⟨_, rfl⟩
                rw [hz] at hcv
                have HZ : Hid (ps.getD 0 (0, 0) = z) := by rw [← hz]; simp [Hid, List.getD, List.getElem?_eq_getElem hk0]
                obtain ⟨z1, z2⟩ := z
                obtain ⟨c0, c1⟩ := hcv
                dsimp only at c0 c1
                have hpp := cell_lt c0
                dsimp only at hpp
                rw [Nat.zero_mul, Nat.add_zero] at c0 c1
                have kx : (0 : Int) < (ps.length : Int) := by omega
                have d6 := hm.out.cm.cell 6
                have d7 := hm.out.cm.cell 7
                simp only [List.getElem?_toArray, List.getElem?_cons_zero, List.getElem?_cons_succ] at d6 d7
                have fd6 := hm.out.cm.frozen 6
                have fd7 := hm.out.cm.frozen 7
                have H2 := Lib.hid ((hm.out.set (by have := HS.out; omega) HNe.out 6 (.int .i64 z1)).set (by have := HS.out; omega) HNe.out 7 (.int .i64 z2))
                clear hz hm hcc
                go_wp2
                go_roundw
                case rel => exact ⟨1, (z1, z2), (q1, q2), by omega, by go_num, by rw [HZ.out]; simp [Hid], by have := hy1.out; simp at this; simp [Hid, this], H2.out⟩
                case measure => simp [intOf]
              · have kx : ¬ (0 : Int) < (ps.length : Int) := by omega
                have HZ : Hid (ps.getD 0 (0, 0) = (0, 0)) := by simp [Hid, List.getD, List.getElem?_eq_none (Nat.le_of_not_lt hk0)]
                go_wp2
                go_roundw
                case rel => exact ⟨1, (p1, p2), (q1, q2), by omega, by go_num, by rw [HZ.out]; have := hx1.out; simp at this; simp [Hid, this], by have := hy1.out; simp at this; simp [Hid, this], hm.out⟩
                case measure => simp [intOf]
            · by_cases hk0 : 1 < ps.length
              · obtain ⟨g', o', hB', hcc⟩ := hm.out.pt (by omega)
                subst hB'
                have hcv := hcc 1 _ (List.getElem?_eq_getElem hk0)
                obtain ⟨z, hz⟩ : ∃ z, ps[1] = z := ⟨_, rfl⟩
                rw [hz] at hcv
                have HZ : Hid (ps.getD 1 (0, 0) = z) := by rw [← hz]; simp [Hid, List.getD, List.getElem?_eq_getElem hk0]
                obtain ⟨z1, z2⟩ := z
                obtain ⟨c0, c1⟩ := hcv
                dsimp only at c0 c1
                have hpp := cell_lt c0
                dsimp only at hpp
                rw [Nat.one_mul] at c0 c1
                have kx : (1 : Int) < (ps.length : Int) := by omega
                have d8 := hm.out.cm.cell 8
                have d9 := hm.out.cm.cell 9
                simp only [List.getElem?_toArray, List.getElem?_cons_zero, List.getElem?_cons_succ] at d8 d9
                have fd8 := hm.out.cm.frozen 8
                have fd9 := hm.out.cm.frozen 9
                have H2 := Lib.hid ((hm.out.set (by have := HS.out; omega) HNe.out 8 (.int .i64 z1)).set (by have := HS.out; omega) HNe.out 9 (.int .i64 z2))
                clear hz hm hcc
                go_wp2
                go_roundw
                case rel => exact ⟨2, (p1, p2), (z1, z2), by omega, by go_num, by have := hx1.out; simp at this; simp [Hid, this], by rw [HZ.out]; simp [Hid], H2.out⟩
                case measure => simp [intOf]
              · have kx : ¬ (1 : Int) < (ps.length : Int) := by omega
                have HZ : Hid (ps.getD 1 (0, 0) = (0, 0)) := by simp [Hid, List.getD, List.getElem?_eq_none (Nat.le_of_not_lt hk0)]
                go_wp2
                go_roundw
                case rel => exact ⟨2, (p1, p2), (q1, q2), by omega, by go_num, by have := hx1.out; simp at this; simp [Hid, this], by rw [HZ.out]; have := hy1.out; simp at this; simp [Hid, this], hm.out⟩
                case measure => simp [intOf]
            · have hxx : (p1, p2) = ps.getD 0 (0, 0) := by have := hx1.out; rw [if_pos (by omega)] at this; exact this
              have hyy : (q1, q2) = ps.getD 1 (0, 0) := by have := hy1.out; rw [if_pos (by omega)] at this; exact this
              have HM1 : Hid (M = { kind := kd, n := 0, p := (p1, p2), q := (q1, q2) }) := by have := HMd.out; rw [if_neg hk, HNV.out, ← hxx, ← hyy] at this; exact this
              clear hxx hyy hx1 hy1
              have d0 := hm.out.cm.cell 0
              have d1 := hm.out.cm.cell 1
              have d2 := hm.out.cm.cell 2
              have d3 := hm.out.cm.cell 3
              have d4 := hm.out.cm.cell 4
              have d5 := hm.out.cm.cell 5
              have d6 := hm.out.cm.cell 6
              have d7 := hm.out.cm.cell 7
              have d8 := hm.out.cm.cell 8
              have d9 := hm.out.cm.cell 9
              have d10 := hm.out.cm.cell 10
              simp only [List.getElem?_toArray, List.getElem?_cons_zero, List.getElem?_cons_succ] at d0 d1 d2 d3 d4 d5 d6 d7 d8 d9 d10
              have e0 := hm.out.re.cell 0
              have e1 := hm.out.re.cell 1
              have e2 := hm.out.re.cell 2
              have e3 := hm.out.re.cell 3
              have e4 := hm.out.re.cell 4
              have e5 := hm.out.re.cell 5
              have e6 := hm.out.re.cell 6
              have e7 := hm.out.re.cell 7
              have e8 := hm.out.re.cell 8
              have e9 := hm.out.re.cell 9
              have e10 := hm.out.re.cell 10
              simp only [List.getElem?_toArray, List.getElem?_cons_zero, List.getElem?_cons_succ] at e0 e1 e2 e3 e4 e5 e6 e7 e8 e9 e10
              have fe0 := hm.out.re.frozen 0
              have fe1 := hm.out.re.frozen 1
              have fe2 := hm.out.re.frozen 2
              have fe3 := hm.out.re.frozen 3
              have fe4 := hm.out.re.frozen 4
              have fe5 := hm.out.re.frozen 5
              have fe6 := hm.out.re.frozen 6
              have fe7 := hm.out.re.frozen 7
              have fe8 := hm.out.re.frozen 8
              have fe9 := hm.out.re.frozen 9
              have fe10 := hm.out.re.frozen 10
              have HE : Hid (Blk (((((((((((wr.setCell ⟨s + 1, 0, none⟩ (.int .i64 kd)).setCell ⟨s + 1, 1, none⟩ (.int .i64 0)).setCell ⟨s + 1, 2, none⟩ (.int .i64 0)).setCell ⟨s + 1, 3, none⟩ (.int .i64 0)).setCell ⟨s + 1, 4, none⟩ (.bool false)).setCell ⟨s + 1, 5, none⟩ (.slice none 0 0)).setCell ⟨s + 1, 6, none⟩ (.int .i64 p1)).setCell ⟨s + 1, 7, none⟩ (.int .i64 p2)).setCell ⟨s + 1, 8, none⟩ (.int .i64 q1)).setCell ⟨s + 1, 9, none⟩ (.int .i64 q2)).setCell ⟨s + 1, 10, none⟩ (.int .i64 0)) (s + 1) 32 #[.int .i64 kd, .int .i64 0, .int .i64 0, .int .i64 0, .bool false, .slice none 0 0, .int .i64 p1, .int .i64 p2, .int .i64 q1, .int .i64 q2, .int .i64 0]) := blk_put11 hm.out.re (.int .i64 kd) (.int .i64 0) (.int .i64 0) (.int .i64 0) (.bool false) (.slice none 0 0) (.int .i64 p1) (.int .i64 p2) (.int .i64 q1) (.int .i64 q2) (.int .i64 0)
              have hfE : Fr (fun b => b = s + 1) wr (((((((((((wr.setCell ⟨s + 1, 0, none⟩ (.int .i64 kd)).setCell ⟨s + 1, 1, none⟩ (.int .i64 0)).setCell ⟨s + 1, 2, none⟩ (.int .i64 0)).setCell ⟨s + 1, 3, none⟩ (.int .i64 0)).setCell ⟨s + 1, 4, none⟩ (.bool false)).setCell ⟨s + 1, 5, none⟩ (.slice none 0 0)).setCell ⟨s + 1, 6, none⟩ (.int .i64 p1)).setCell ⟨s + 1, 7, none⟩ (.int .i64 p2)).setCell ⟨s + 1, 8, none⟩ (.int .i64 q1)).setCell ⟨s + 1, 9, none⟩ (.int .i64 q2)).setCell ⟨s + 1, 10, none⟩ (.int .i64 0)) := (fr_set1 (fr_set1 (fr_set1 (fr_set1 (fr_set1 (fr_set1 (fr_set1 (fr_set1 (fr_set1 (fr_set1 (fr_set1 (Fr.refl (fun b => b = s + 1) wr) (s + 1) 0 rfl (.int .i64 kd)) (s + 1) 1 rfl (.int .i64 0)) (s + 1) 2 rfl (.int .i64 0)) (s + 1) 3 rfl (.int .i64 0)) (s + 1) 4 rfl (.bool false)) (s + 1) 5 rfl (.slice none 0 0)) (s + 1) 6 rfl (.int .i64 p1)) (s + 1) 7 rfl (.int .i64 p2)) (s + 1) 8 rfl (.int .i64 q1)) (s + 1) 9 rfl (.int .i64 q2)) (s + 1) 10 rfl (.int .i64 0))
              have hdn := hm.out.done (by have := HS.out; omega) HNl.out hfE
              have HD1 := Lib.hid hdn.1
              have HD2 := Lib.hid hdn.2
              clear hfE hdn
              go_wp2
              refine bodyPost_ret (results_cell_row rfl _ _ _ _ _ _ _ rfl HE.out Tryd.underlying32 rfl cmd_size) rfl ⟨_, rfl, ?_, HD2.out⟩
              rw [HM1.out]
              exact ⟨none, 0, rfl, Nat.le_refl _, fun h0 => absurd h0 (by simp), fun a ha => by cases ha⟩
end Go.Proofs.YtidohbhcjnmmeaaDoor
