/-
  What Crash does.
-/
import Derived.Test.YtilclfeaolhoeaaDoorDisk8
import Derived.Test.YtilclfeaolhoeaaDoorCopyLaw
import Derived.Deep.RegionLaw
import Derived.Test.YtilclfeaolhoeaaDoorRoundRegion
namespace Go.Proofs.YtilclfeaolhoeaaDoor
set_option linter.unusedSimpArgs false
set_option linter.unusedVariables false
open Go.RowKit Go.Shelf
attribute [local go_sem] Oper.semAt_some

theorem exists_sub {β : Type} {P : β → Prop} (l : List β) (h : ∀ x ∈ l, P x) : ∃ l' : List { x // P x }, l'.map (·.1) = l := by
  induction l with
  | nil => exact ⟨[], rfl⟩
  | cons x l ih =>
    obtain ⟨l', e⟩ := ih (fun y hy => h y (List.mem_cons_of_mem _ hy))
    exact ⟨⟨x, h x (List.mem_cons_self ..)⟩ :: l', by simp [e]⟩

/-- The ints of a slice that came in, none of them in a block of R. -/
def IntsOut (R : Nat → Prop) (w : World) (A : Option Addr) (keep : List Int) : Prop :=
  (∀ x ∈ keep, (Lit.int .i64 x).wf = true) ∧ (0 < keep.length → ∃ kb ko, A = some ⟨kb, ko, none⟩ ∧ ¬ R kb ∧ ∀ j x, keep[j]? = some x → w.cell? ⟨kb, ko + j, none⟩ = some (.int .i64 x))
theorem IntsOut.nil (R : Nat → Prop) (w : World) (A : Option Addr) : IntsOut R w A [] := ⟨by simp, by simp⟩
theorem IntsOut.fr {R R' F : Nat → Prop} {w w' : World} {A : Option Addr} {keep : List Int} (h : IntsOut R w A keep) (hf : Fr F w w') (hd : ∀ b, b < w.heap.size → ¬ R b → ¬ F b ∧ ¬ R' b) : IntsOut R' w' A keep :=
  ⟨h.1, fun h0 => by
    obtain ⟨kb, ko, e, hn, hc⟩ := h.2 h0
    have hlt : kb < w.heap.size := by
      obtain ⟨x, hx⟩ : ∃ x, keep[0]? = some x := ⟨keep[0], List.getElem?_eq_getElem h0⟩
      exact cell_lt (hc 0 x hx)
    exact ⟨kb, ko, e, (hd kb hlt hn).2, fun j x hx => (hf.cell (p := ⟨kb, ko + j, none⟩) hlt (hd kb hlt hn).1).trans (hc j x hx)⟩⟩

def DS.crash (S : DS) (keep : List Int) : DS := { S with now := setAll S.last (chosen keep S.waits), last := setAll S.last (chosen keep S.waits), waits := [], fuse := -1, dead := false }

theorem mem_chosen {β : Type} {keep : List Int} {l : List β} {x : β} (h : x ∈ chosen keep l) : x ∈ l := by
  unfold chosen at h
  obtain ⟨y, hy, rfl⟩ := List.mem_map.1 h
  have := (List.mem_filter.1 hy).1
  exact List.fst_mem_of_mem_zipIdx this
theorem Waits.pick {R : Nat → Prop} {w : World} {n : Nat} {ws : List (Nat × Value)} {xs : List (Nat × List UInt8)} (h : Waits R w n ws xs) (keep : List Int) : Waits R w n (chosen keep ws) (chosen keep xs) := by
  have e1 : (ws.zip xs).map Prod.fst = ws := List.map_fst_zip (by rw [h.1]; exact Nat.le_refl _)
  have e2 : (ws.zip xs).map Prod.snd = xs := List.map_snd_zip (by rw [h.1]; exact Nat.le_refl _)
  have key : ∀ y ∈ ws.zip xs, y.1.1 = y.2.1 ∧ y.1.1 < n ∧ Sec R w y.1.2 y.2.2 := by
    intro y hy
    obtain ⟨i, hi, rfl⟩ := List.mem_iff_getElem.1 hy
    rw [List.getElem_zip]
    exact h.2 i _ _ (List.getElem?_eq_getElem _) (List.getElem?_eq_getElem _)
  have e3 : chosen keep ws = (chosen keep (ws.zip xs)).map Prod.fst := by rw [← chosen_map, e1]
  have e4 : chosen keep xs = (chosen keep (ws.zip xs)).map Prod.snd := by rw [← chosen_map, e2]
  rw [e3, e4]
  refine ⟨by simp, fun i x y hx hy => ?_⟩
  rw [List.getElem?_map] at hx hy
  obtain ⟨z, hz, rfl⟩ := Option.map_eq_some_iff.1 hx
  rw [hz] at hy
  injection hy with hy
  subst hy
  exact key z (mem_chosen (List.mem_of_getElem? hz))

/-- The frame of Crash in a round: the boxed write in slot 4. -/
def crashAct (w : World) (p : Nat) (A : Option Addr) (n c : Nat) (Bx : Nat) (x : Value) : Act :=
  { tmps := #[.pointer (some ⟨p, 0, none⟩), .slice A n c, .pointer (some ⟨w.heap.size, 0, none⟩), undef, .pointer (some ⟨Bx, 0, none⟩), .pointer (some ⟨p, 0, none⟩), .slice A n c,
      .func (.func 33) #[] #[.pointer (some ⟨w.heap.size + 1 + 1, 0, none⟩), .pointer (some ⟨w.heap.size + 1, 0, none⟩)],
      x, undef, undef, undef, undef, undef, undef, undef, undef, undef, undef, undef, undef, undef, undef, undef,
      undef, undef, undef, undef, undef, undef, undef, undef, undef, undef, undef, undef], defers := [] }

theorem blk_grown {g : Nat} {t : TypeId} {cs : Array Value} {w w' : World} {row : Option Nat} (h : Blk w g t cs) (hg : w.grownBy w' row) (hr : ∀ r, row = some r → ∃ o : Obj, w.heap[r]? = some o ∧ o.isCells = false) : Blk w' g t cs :=
  h.grown hg (fun e => by
    obtain ⟨o, ho, hc⟩ := hr g e.symm
    unfold Blk at h
    rw [h] at ho
    injection ho with ho
    subst ho
    cases hc)

section
variable {R : Nat → Prop} {w : World} {p : Nat} {S : DS}

set_option maxRecDepth 100000 in
set_option maxHeartbeats 400000 in
theorem Crash_anyD (A : Option Addr) (c : Nat) (keep : List Int) (h : DiskOk R w p S) (hkp : IntsOut R w A keep) (hreach : keep.length * 8 ≤ 140737488351232) (hwl : S.waits.length < 4000000000) :
    Calls Tryd.prog 10 #[.pointer (some ⟨p, 0, none⟩), .slice A keep.length c] w fun e w' => e = .returned (.tuple #[]) ∧ DiskOk R w' p (S.crash keep) ∧ FrD R w w' := by
  obtain ⟨nb, lb, nv, lv, wv, ws, h⟩ := h
  have H := Lib.hid h
  have HKp := Lib.hid hkp
  have HWl : Hid (ws.length < 4000000000) := by show _ < _; rw [h.waits.1]; exact hwl
  have hpz : p < w.heap.size := h.blk.lt
  have hlz : lb < w.heap.size := h.blast.lt
  have hpl : ¬ p = lb := Blk.ne_ h.blk h.blast (by decide)
  have hwf : ∀ x ∈ ws, x.1 < S.now.length ∧ ∃ A m c, x.2 = .slice A m c := by
    intro x hx
    obtain ⟨i, hi, rfl⟩ := List.mem_iff_getElem.1 hx
    have := h.waits.2 i ws[i] _ (List.getElem?_eq_getElem hi) (List.getElem?_eq_getElem (by rw [← h.waits.1]; exact hi))
    exact ⟨this.2.1, this.2.2.form⟩
  obtain ⟨wsA, hwsA⟩ := exists_sub ws hwf
  have HwsA := Lib.hid hwsA
  clear h hkp hwl hwf hwsA
  refine (callsIn_wide (n := 6)).1 ?_
  refine callsIn_of_wp_marks Tryd.func10 rfl trivial ?_ rfl
  simp only [Tryd.ntmps10, List.size_toArray, List.length_cons, List.length_nil, Nat.reduceAdd, Nat.reduceSub, Array.replicate_succ, Array.replicate_zero, List.push_toArray, List.append_toArray, List.nil_append, List.cons_append]
  refine wpIn_wide.2 ?_
  go_wp2_with (go_at_call 24; refine (callsIn_wide.1 (kept_in Fence.wide 3 trivial rfl _ _ _ _ _ ⟨_, rfl⟩)).mono ?_; rintro e w' ⟨rfl, rfl⟩)
  obtain ⟨W0, hW0⟩ : ∃ W0, ((w.alloc (.cells #[.pointer (some ⟨p, 0, none⟩)] 23)).alloc (.cells #[.pointer (some ⟨p, 0, none⟩)] 23)).alloc (.cells #[.slice A keep.length c] 45) = W0 := ⟨_, rfl⟩
  have hz0 : W0.heap.size = w.heap.size + 3 := by subst hW0; simp
  have b0 : Blk W0 w.heap.size 23 #[.pointer (some ⟨p, 0, none⟩)] := by subst hW0; exact ((Blk.new w _ _).alloc _).alloc _
  have b1 : Blk W0 (w.heap.size + 1) 23 #[.pointer (some ⟨p, 0, none⟩)] := by
    subst hW0
    have := Blk.new (w.alloc (.cells #[.pointer (some ⟨p, 0, none⟩)] 23)) 23 #[.pointer (some ⟨p, 0, none⟩)]
    rw [World.size_alloc] at this
    exact this.alloc _
  have b2 : Blk W0 (w.heap.size + 1 + 1) 45 #[.slice A keep.length c] := by
    subst hW0
    have := Blk.new ((w.alloc (.cells #[.pointer (some ⟨p, 0, none⟩)] 23)).alloc (.cells #[.pointer (some ⟨p, 0, none⟩)] 23)) 45 #[.slice A keep.length c]
    rwa [World.size_alloc, World.size_alloc] at this
  have hf0 : Fr Nob w W0 := by subst hW0; exact (((Fr.refl _ w).alloc _).alloc _).alloc _
  rw [hW0]
  clear hW0
  have hstops : SeqStopsK Fence.wide 5 Tryd.prog 33 #[.pointer (some ⟨w.heap.size + 1 + 1, 0, none⟩), .pointer (some ⟨w.heap.size + 1, 0, none⟩)] (encK (n := S.now.length)) (KK lb) (fun ys => ys = chosen keep wsA) (fun pre => pre <+: chosen keep wsA) wsA.length W0 := by
    intro l J Jx W hW hJ hJx hY h0
    have hfW : Fr Nob w W := hf0.trans (Fr.of_below hW)
    have hDW := H.out.fr hfW (fun _ _ h => h)
    have hl : wsA.length = ws.length := by rw [← HwsA.out, List.length_map]
    have hsz := hW.size
    refine kept1_in Fence.wide 5 trivial rfl (by decide) l (w.heap.size + 1 + 1) (w.heap.size + 1) p lb S.now.length A c keep wv wsA J Jx hY W hJ (by omega)
      ((b2.fr (Fr.of_below hW) (fun h => h)).cell 0) (by omega) (by omega) ((b1.fr (Fr.of_below hW) (fun h => h)).cell 0) (by omega) (by omega)
      hDW.cells.2.2.1 hpl (by omega) hreach (by rw [hl]; exact HWl.out) ⟨HKp.out.1, fun hk => ?_⟩ (by rw [hl, HwsA.out]; exact hDW.own)
      (fun g hg e => Blk.own_ne H.out.blast H.out.own (by decide) (by rw [hg, e])) h0
    obtain ⟨kb, ko, e, hn, hc⟩ := HKp.out.2 hk
    refine ⟨kb, ko, e, fun e => hn (by rw [e]; exact H.out.rl), fun j x hx => ?_⟩
    exact (hfW.cell (p := ⟨kb, ko + j, none⟩) (cell_lt (hc j x hx)) (fun h => h)).trans (hc j x hx)
  have HSt := Lib.hid hstops
  clear hstops
  refine (wpIn_wide (n := 6)).1 ?_
  refine wpIn_rangeFunc_ownH (F := Fence.wide) rfl (by decide) (gf := 33) (lb := #[.pointer (some ⟨w.heap.size + 1 + 1, 0, none⟩), .pointer (some ⟨w.heap.size + 1, 0, none⟩)]) rfl trivial (enters_of Tryd.func33 (by kernel_rfl) rfl)
    HSt.out (fun h k => h.trans k) (fun W l o o' _ hl h1 h2 => KK.putObj o' hl h1 h2) (Below.refl _ _) (fun _ => rfl)
    (fun pre W => Hid (Fr (fun b => b = lb) w W) ∧ Hid (Blk W lb 35 (setAll lv (pre.map (·.1))).toArray) ∧ Hid (Blk W w.heap.size 23 #[.pointer (some ⟨p, 0, none⟩)]))
    (fun _ _ _ => False)
    (fun s Wa Wb row hs hg hr => ⟨hs.1.out.grown hg (fun r e => .inl (by have := (hr r e).1; omega)), blk_grown hs.2.1.out hg (fun r e => (hr r e).2), blk_grown hs.2.2.out hg (fun r e => (hr r e).2)⟩)
    (fun _ _ _ _ _ hs _ _ => hs)
    ⟨hf0.mono (fun _ _ h => h.elim), H.out.blast.fr hf0 (fun h => h), b0⟩
    (fun x a' W => ∃ Bx, w.heap.size < Bx ∧ Blk W Bx 65 #[.int .i64 x.1.1, x.1.2] ∧ a' = crashAct w p A keep.length c Bx (.agg #[.int .i64 x.1.1, x.1.2]))
    (fun x a' s Wa Wb row hs hg hr => by obtain ⟨Bx, h1, h2, h3⟩ := hs; exact ⟨Bx, h1, blk_grown h2 hg (fun r e => (hr r e).2), h3⟩) ?assign ?body ?done ?stop
  case assign =>
    rintro l pre ⟨⟨xi, xv⟩, hxi, A2, n2, c2, hxv⟩ W K ⟨hI1, hI2, hI3⟩ hK
    dsimp only at hxv
    subst hxv
    have hz := hI1.out.size
    have HK := Lib.hid hK
    clear hK
    dsimp only [encK]
    gi_wp2
    refine HK.out _ _ ((KeepsOthers.alloc _ _).from _) ((KK.refl _ _).alloc _) ⟨hI1.out.alloc _, hI2.out.alloc _, hI3.out.alloc _⟩ ⟨W.heap.size, hI3.out.lt, Blk.new W _ _, ?_⟩
    rfl
  case body =>
    rintro l pre ⟨⟨xi, xv⟩, hxi, A2, n2, c2, hxv⟩ a' W hl hrec ⟨hI1, hI2, hI3⟩ ⟨Bx, hBx, hbx, rfl⟩ hlt
    dsimp only at hxv
    subst hxv
    dsimp only at hxi hbx ⊢
    have hpW : Blk W p 50 _ := H.out.blk.fr hI1.out hpl
    have d1 : W.cell? ⟨p, 1, none⟩ = some (.slice (some ⟨lb, 0, none⟩) S.now.length lv.length) := hpW.cell 1
    have e0 : W.cell? ⟨w.heap.size, 0, none⟩ = some (.pointer (some ⟨p, 0, none⟩)) := hI3.out.cell 0
    have x0 : W.cell? ⟨Bx, 0, none⟩ = some (.int .i64 xi) := hbx.cell 0
    have x1 : W.cell? ⟨Bx, 1, none⟩ = some (.slice A2 n2 c2) := hbx.cell 1
    have fl := hI2.out.frozen xi
    obtain ⟨v0, cl⟩ : ∃ v0, W.cell? ⟨lb, xi, none⟩ = some v0 := by
      rw [hI2.out.cell]
      have : xi < (setAll lv (pre.map (·.1))).length := by rw [setAll_length]; have h1 := H.out.last.1; have h2 := H.out.llen; omega
      exact ⟨_, by rw [List.getElem?_toArray]; exact List.getElem?_eq_getElem this⟩
    have HBx := Lib.hid hbx
    clear hpW hbx hrec
    unfold crashAct
    gi_wp2
    refine wpIn_region_held (fun w' => w'.cell? ⟨w.heap.size, 0, none⟩ = some (.pointer (some ⟨p, 0, none⟩)) ∧ w'.cell? ⟨p, 1, none⟩ = some (.slice (some ⟨lb, 0, none⟩) S.now.length lv.length) ∧ w'.cell? ⟨Bx, 0, none⟩ = some (.int .i64 xi) ∧ w'.cell? ⟨Bx, 1, none⟩ = some (.slice A2 n2 c2)) (by kernel_rfl) (by kernel_rfl) (fun _ _ h => h) ?_
    have hS : (fun w' : World => w'.cell? ⟨w.heap.size, 0, none⟩ = some (.pointer (some ⟨p, 0, none⟩)) ∧ w'.cell? ⟨p, 1, none⟩ = some (.slice (some ⟨lb, 0, none⟩) S.now.length lv.length) ∧ w'.cell? ⟨Bx, 0, none⟩ = some (.int .i64 xi) ∧ w'.cell? ⟨Bx, 1, none⟩ = some (.slice A2 n2 c2)) W.drew := ⟨e0, d1, x0, x1⟩
    refine wpAnyH_take (i := 0) (v := (.pointer (some ⟨p, 0, none⟩))) rfl (by kernel_rfl) (by kernel_rfl) (by kernel_rfl) (fun _ _ _ h => h) (.inl ⟨rfl, fun wz ⟨s0, s1, s2, s3⟩ => ?_⟩) hS ?_
    · clear e0 d1 x0 x1 cl fl
      go_simp
    refine wpAnyH_take (i := 1) (v := (.pointer (some ⟨p, 0, none⟩))) rfl (by kernel_rfl) (by kernel_rfl) (by kernel_rfl) (fun _ _ _ h => h) (.inl ⟨rfl, fun wz ⟨s0, s1, s2, s3⟩ => ?_⟩) hS ?_
    · clear e0 d1 x0 x1 cl fl
      go_simp
    refine wpAnyH_take (i := 2) (v := (.pointer (some ⟨p, 1, none⟩))) rfl (by kernel_rfl) (by kernel_rfl) (by kernel_rfl) (fun _ _ _ h => h) (.inl ⟨rfl, fun wz ⟨s0, s1, s2, s3⟩ => ?_⟩) hS ?_
    · clear e0 d1 x0 x1 cl fl
      go_simp
    refine wpAnyH_take (i := 3) (v := (.slice (some ⟨lb, 0, none⟩) S.now.length lv.length)) rfl (by kernel_rfl) (by kernel_rfl) (by kernel_rfl) (fun _ _ _ h => h) (.inl ⟨rfl, fun wz ⟨s0, s1, s2, s3⟩ => ?_⟩) hS ?_
    · clear e0 d1 x0 x1 cl fl
      go_simp
    refine wpAnyH_take (i := 4) (v := (.pointer (some ⟨Bx, 0, none⟩))) rfl (by kernel_rfl) (by kernel_rfl) (by kernel_rfl) (fun _ _ _ h => h) (.inl ⟨rfl, fun wz ⟨s0, s1, s2, s3⟩ => ?_⟩) hS ?_
    · clear e0 d1 x0 x1 cl fl
      go_simp
    refine wpAnyH_take (i := 5) (v := (.int .i64 xi)) rfl (by kernel_rfl) (by kernel_rfl) (by kernel_rfl) (fun _ _ _ h => h) (.inl ⟨rfl, fun wz ⟨s0, s1, s2, s3⟩ => ?_⟩) hS ?_
    · clear e0 d1 x0 x1 cl fl
      go_simp
    refine wpAnyH_take (i := 6) (v := (.pointer (some ⟨Bx, 1, none⟩))) rfl (by kernel_rfl) (by kernel_rfl) (by kernel_rfl) (fun _ _ _ h => h) (.inl ⟨rfl, fun wz ⟨s0, s1, s2, s3⟩ => ?_⟩) hS ?_
    · clear e0 d1 x0 x1 cl fl
      go_simp
    refine wpAnyH_take (i := 7) (v := (.slice A2 n2 c2)) rfl (by kernel_rfl) (by kernel_rfl) (by kernel_rfl) (fun _ _ _ h => h) (.inl ⟨rfl, fun wz ⟨s0, s1, s2, s3⟩ => ?_⟩) hS ?_
    · clear e0 d1 x0 x1 cl fl
      go_simp
    refine wpAnyH_take (i := 8) (v := (.pointer (some ⟨lb, xi, none⟩))) rfl (by kernel_rfl) (by kernel_rfl) (by kernel_rfl) (fun _ _ _ h => h) (.inl ⟨rfl, fun wz ⟨s0, s1, s2, s3⟩ => ?_⟩) hS ?_
    · clear e0 d1 x0 x1 cl fl
      go_simp
    refine wpAnyH_last (i := 9) ((W.setCell ⟨lb, xi, none⟩ (.slice A2 n2 c2)).drew) rfl (by kernel_rfl) (by kernel_rfl) rfl ?_ ?_ ?_
    · go_simp
    · go_simp
    · have hz := hI1.out.size
      refine ⟨((KeepsOthers.setCell _ _ _).trans (KeepsOthers.drew _)).from _, (KK.of_grown (grown_set W ⟨lb, xi, none⟩ _) (fun r e => by cases e; rfl)).drew, (hI1.out.setCell (p := ⟨lb, xi, none⟩) (.inr rfl) _).drew, ?_, ?_⟩
      · have := hI2.out.set_ xi (.slice A2 n2 c2)
        rw [List.setIfInBounds_toArray] at this
        show Blk _ _ _ _
        rw [List.map_append, List.map_singleton, setAll_snoc]
        exact this
      · exact (hI3.out.far (p := ⟨lb, xi, none⟩) (by intro e; simp at e; omega) _).drew
  case done =>
    rintro D ys W hD rfl ⟨hI1, hI2, hI3⟩ hK
    have hpW : Blk W p 50 _ := H.out.blk.fr hI1.out hpl
    have c0 : W.cell? ⟨p, 0, none⟩ = some (.slice (some ⟨nb, 0, none⟩) S.now.length nv.length) := hpW.cell 0
    have c1 : W.cell? ⟨p, 1, none⟩ = some (.slice (some ⟨lb, 0, none⟩) S.now.length lv.length) := hpW.cell 1
    have e0 : W.cell? ⟨w.heap.size, 0, none⟩ = some (.pointer (some ⟨p, 0, none⟩)) := hI3.out.cell 0
    have HpW := Lib.hid hpW
    have hnW := H.out.bnow.fr hI1.out H.out.ne
    obtain ⟨lv', hlv⟩ : ∃ l, setAll lv ((chosen keep wsA).map (·.1)) = l := ⟨_, rfl⟩
    rw [hlv] at hI2
    have hlen : lv'.length = lv.length := by rw [← hlv, setAll_length]
    have hcs : (chosen keep wsA).map (·.1) = chosen keep ws := by rw [← chosen_map, HwsA.out]
    have hsec : Secs R w lv' (setAll S.last (chosen keep S.waits)) := by
      rw [← hlv, hcs]; exact Secs.all_set _ _ (H.out.waits.pick keep) H.out.last
    have hNl : S.now.length ≤ lv.length := by have h1 := H.out.last.1; have h2 := H.out.llen; omega
    have hNn : S.now.length ≤ nv.length := H.out.now.1
    have hsl : (setAll S.last (chosen keep S.waits)).length = S.now.length := by rw [setAll_length]; exact H.out.llen
    have HSec := Lib.hid hsec
    have HSl := Lib.hid hsl
    clear hsec hsl hcs
    have HLv := Lib.hid hlv
    have HLen := Lib.hid hlen
    have HnW := Lib.hid hnW
    have HKd := Lib.hid hK
    clear hpW hnW hlv hlen hK
    have hct : Hid ((lv'.take S.now.length).length = S.now.length) := by show _ = _; rw [List.length_take, HLen.out]; omega
    have hn : Hid ((lv'.take S.now.length).length = Nat.min S.now.length S.now.length) := by show _ = _; rw [hct.out]; exact (Nat.min_self _).symm
    have hfit : Hid (0 + (lv'.take S.now.length).length ≤ nv.length) := by show _ ≤ _; rw [hct.out]; omega
    have hsrc : Hid (∀ j v, (lv'.take S.now.length)[j]? = some v → W.drew.cell? ((⟨lb, 0, none⟩ : Addr).add j) = some v) := by
      intro j v hj
      have := World.news_of_block hI2.out
      have hjl : j < S.now.length := by have := (List.getElem?_eq_some_iff.1 hj).1; rw [hct.out] at this; exact this
      rw [List.getElem?_take_of_lt hjl] at hj
      exact this j v (by simpa using hj)
    have hone : Hid (∀ v ∈ lv'.take S.now.length, v.oneCell' = true) := by
      intro v hv
      obtain ⟨i, hi, rfl⟩ := List.mem_iff_getElem.1 hv
      have hiN : i < S.now.length := by rw [hct.out] at hi; exact hi
      have hs : i < (setAll S.last (chosen keep S.waits)).length := by rw [HSl.out]; exact hiN
      have hil : i < lv'.length := by rw [HLen.out]; omega
      obtain ⟨A, m, c, e⟩ := (HSec.out.2 i lv'[i] _ (List.getElem?_eq_getElem hil) (List.getElem?_eq_getElem hs)).form
      rw [List.getElem_take, e]; rfl
    have hinf : (Tryd.prog.info? 35).map (·.size) = some 1 := by kernel_rfl
    go_wp2
    refine wp_quietly ?_
    go_region_law (refine step_copy_exact rfl (.tmp 21) (.tmp 25) 47 47 rfl 35 Tryd.underlying47 hinf (some ⟨nb, 0, none⟩) (some ⟨lb, 0, none⟩) S.now.length nv.length S.now.length lv.length rfl rfl nb 0 nv 35 HnW.out (lv'.take S.now.length) hn.out (fun _ => ⟨rfl, _, rfl, hsrc.out⟩) hfit.out hone.out ?_; intro w3 hg3 hb3)
    all_goals
      obtain ⟨nv', hnv'⟩ : ∃ l, splice nv 0 (lv'.take S.now.length) = l := ⟨_, rfl⟩
      have hg3' : Blk w3 nb 35 nv'.toArray := by
        have := hg3.out
        rw [hnv'] at this
        exact this
      have hnv1 : nv'.length = nv.length := by rw [← hnv', length_splice _ _ _ hfit.out]
      have hnv2 : ∀ i, i < S.now.length → nv'[i]? = lv'[i]? := by
        intro i hi
        rw [← hnv']
        simp only [splice, List.take_zero, List.nil_append]
        rw [List.getElem?_append_left (by rw [hct.out]; exact hi), List.getElem?_take_of_lt hi]
      have HNv1 := Lib.hid hnv1
      have HNv2 := Lib.hid hnv2
      clear hnv1 hnv2 hnv'
      have hpn : ¬ p = nb := Blk.ne_ H.out.blk H.out.bnow (by decide)
      have hp3 := Blk.grown (HpW.out.drew) hb3 (fun e => hpn (by injection e))
      have hb03 := Blk.grown (hI3.out.drew) hb3 (fun e => by injection e with e; have := H.out.bnow.lt; omega)
      have e3 : w3.cell? ⟨w.heap.size, 0, none⟩ = some (.pointer (some ⟨p, 0, none⟩)) := hb03.cell 0
      have k2 : w3.cell? ⟨p, 2, none⟩ = some wv := hp3.cell 2
      have k4 : w3.cell? ⟨p, 4, none⟩ = some (.int .i64 S.fuse) := hp3.cell 4
      have k5 : w3.cell? ⟨p, 5, none⟩ = some (.bool S.dead) := hp3.cell 5
      have q2 := hp3.frozen 2
      have q4 := hp3.frozen 4
      have q5 := hp3.frozen 5
      have HG3 := Lib.hid hg3'
      have HB3 := Lib.hid hb3
      have HP3 := Lib.hid hp3
      clear hg3 hg3' hb3 hp3 hb03
      have hwpn : ¬ w.heap.size = p := by omega
      dsimp only [OnlyNormal]
      go_wp2
      obtain ⟨w4, hw4⟩ : ∃ w4, ((w3.setCell ⟨p, 2, none⟩ (.slice none 0 0)).setCell ⟨p, 4, none⟩ (.int .i64 (-1))).setCell ⟨p, 5, none⟩ (.bool false) = w4 := ⟨_, rfl⟩
      rw [hw4]
      have hz3 := HB3.out.size
      have hDp : ¬ D = p := by omega
      have hDn : ¬ D = nb := by have := H.out.bnow.lt; omega
      have hDl : ¬ D = lb := by omega
      have hK4 : w4.heap[D]? = some (.deferred (some [])) := by
        have h3 : w3.heap[D]? = some (.deferred (some [])) := (HB3.out.block D (Array.getElem?_eq_some_iff.1 HKd.out).1 (fun e => hDn (by injection e))).trans HKd.out
        subst hw4
        rw [Below.heap_setCell _ _ _ _ hDp, Below.heap_setCell _ _ _ _ hDp, Below.heap_setCell _ _ _ _ hDp]
        exact h3
      have hf4 : Fr (fun b => b = p ∨ b = nb ∨ b = lb) w w4 := by
        have h3 : Fr (fun b => b = p ∨ b = nb ∨ b = lb) w w3 := (((hI1.out.mono (fun _ _ e => .inr (.inr e))).drew).grown HB3.out (fun k e => .inr (.inr (.inl (by injection e with e; exact e.symm)))))
        subst hw4
        exact ((h3.setCell (p := ⟨p, 2, none⟩) (.inr (.inl rfl)) _).setCell (p := ⟨p, 4, none⟩) (.inr (.inl rfl)) _).setCell (p := ⟨p, 5, none⟩) (.inr (.inl rfl)) _
      have hb4 := (((HP3.out.set_ 2 (.slice none 0 0)).set_ 4 (.int .i64 (-1))).set_ 5 (.bool false))
      have hpnl : ¬ nb = p := fun e => hpn e.symm
      have hlp : ¬ lb = p := fun e => hpl e.symm
      have hn4 : Blk w4 nb 35 nv'.toArray := by
        subst hw4
        exact ((HG3.out.far (p := ⟨p, 2, none⟩) hpnl _).far (p := ⟨p, 4, none⟩) hpnl _).far (p := ⟨p, 5, none⟩) hpnl _
      have hl4 : Blk w4 lb 35 (setAll lv ((chosen keep wsA).map (·.1))).toArray := by
        have h3 : Blk w3 lb 35 (setAll lv ((chosen keep wsA).map (·.1))).toArray := by
          rw [HLv.out]
          exact (hI2.out.drew).grown HB3.out (fun e => H.out.ne (by injection e with e; exact e.symm))
        subst hw4
        exact ((h3.far (p := ⟨p, 2, none⟩) hlp _).far (p := ⟨p, 4, none⟩) hlp _).far (p := ⟨p, 5, none⟩) hlp _
      rw [hw4] at hb4
      refine ⟨by simp, .inl ⟨_, _, rfl, run_takeDeferred hK4, ?_⟩⟩
      have hg5 := grownBy_putObj' w4 D (.deferred none)
      have hD5 : ∀ b, b < w.heap.size → ¬ some b = some D := fun b hb e => by injection e with e; omega
      have hf5 : Fr (fun b => b = p ∨ b = nb ∨ b = lb) w (w4.putObj D (.deferred none)) := hf4.grown hg5 (fun k e => by injection e with e; subst e; exact .inl (by omega))
      refine ⟨_, results_none rfl _ _ _, rfl, ?_⟩
      have hcs : (chosen keep wsA).map (·.1) = chosen keep ws := by rw [← chosen_map, HwsA.out]
      have hlv2 : lv' = setAll lv (chosen keep ws) := by rw [← HLv.out, hcs]
      rw [hcs] at hl4
      obtain ⟨r1, r2⟩ := crash_shape H.out (H.out.waits.pick keep) hf5 (hb4.grown hg5 (hD5 p hpz)) (hn4.grown hg5 (hD5 nb H.out.bnow.lt)) HNv1.out (by rw [← hlv2]; exact HNv2.out) (hl4.grown hg5 (hD5 lb hlz))
      exact ⟨⟨_, _, _, _, _, _, r1⟩, r2⟩
  case stop =>
    rintro D c pre W _ _ h _
    exact h.elim

theorem Crash_any (A : Option Addr) (c : Nat) (keep : List Int) (h : DiskOk R w p S) (hkp : IntsOut R w A keep) (hreach : keep.length * 8 ≤ 140737488351232) (hwl : S.waits.length < 4000000000) :
    Calls Tryd.prog 10 #[.pointer (some ⟨p, 0, none⟩), .slice A keep.length c] w fun e w' => e = .returned (.tuple #[]) ∧ DiskOk R w' p (S.crash keep) ∧ Fr R w w' :=
  (Crash_anyD A c keep h hkp hreach hwl).mono (fun _ _ h => ⟨h.1, h.2.1, FrD.fr h.2.2⟩)
end
end Go.Proofs.YtilclfeaolhoeaaDoor
