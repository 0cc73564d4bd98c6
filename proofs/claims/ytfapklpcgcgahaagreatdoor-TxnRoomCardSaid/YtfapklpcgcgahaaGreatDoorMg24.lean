/-
  Pool8, Pool9, in one text.
-/
import Derived.Test.YtfapklpcgcgahaaGreatDoorMg22
import Derived.Test.YtfapklpcgcgahaaGreatDoorMg23
import Derived.Test.YtfapklpcgcgahaaGreatDoorMg19
import Derived.Deep.DeepCutAuto
/-
  write: dirty pages are written, behind their records.
-/
namespace Go.Proofs.YtfapklpcgcgahaaGreatDoor
set_option linter.unusedSimpArgs false
set_option linter.unusedVariables false
open Go.RowKit Go.Maps

/-- Pointers to frames in a slice. -/
def PtrsIn (Bad : Nat → Prop) (w : World) (A : Option Addr) (ys : List (Nat × Frm)) : Prop := 0 < ys.length → ∃ g, A = some ⟨g, 0, none⟩ ∧ ¬ Bad g ∧ ∀ (j : Nat) y, ys[j]? = some y → w.cell? ⟨g, j, none⟩ = some (.pointer (some ⟨y.1, 0, none⟩))
theorem PtrsIn.fr {Bad F : Nat → Prop} {w w' : World} {A : Option Addr} {ys : List (Nat × Frm)} (h : PtrsIn Bad w A ys) (hf : Fr F w w') (hF : ∀ b, b < w.heap.size → F b → Bad b) : PtrsIn Bad w' A ys := fun h0 => by
  obtain ⟨g, e, hg, hc⟩ := h h0
  refine ⟨g, e, hg, fun j y hy => ?_⟩
  have hlt := cell_lt (hc j y hy)
  exact (hf.cell (p := ⟨g, j, none⟩) hlt (fun e => hg (hF g hlt e))).trans (hc j y hy)
theorem len_ptrs (w : World) (A : Option Addr) (n c : Nat) : (Builtin.len_ #[138] 3 #[Value.slice A n c]).run Tryz.prog w = .ok (.int .i64 n) w := by go_simp
/-- What holds while pages are gathered. -/
structure WSt (RP RQ : Nat → Prop) (w0 wr : World) (p f l d pages : Nat) (frames hand : Int) (B : Nat) (rv : Value) (fs : List (Nat × Frm)) (cur : Nat → Option PgV) (L0 L : LS) (S : DS) (T : Nat) (lot : List PgV) (RL RD0 RD : Nat → Prop) (N : Nat) (A : Option Addr) (ys : List (Nat × Frm)) (v : Value) (xs : List (PgV × Value)) : Prop where
  pool : PoolAt RP RQ wr p f l frames hand B rv fs
  und : Und wr f l d pages cur L S T lot RL RD N
  same : LSame L0 L
  sub : ∀ b, RD b → RD0 b ∨ w0.heap.size ≤ b
  ap : ∀ b, RP b ∨ RQ b → ¬ RL b ∧ ¬ RD b ∧ b ≠ f
  ptr : PtrsIn (fun b => RP b ∨ RL b ∨ RD0 b ∨ b = f ∨ w0.heap.size ≤ b) wr A ys
  row : wr.ownsRow w0.heap.size 84 3 v xs.length (pgCells xs)
  rap : ∀ g, v.ownBlock = some g → ¬ RD g
  cells : ∀ x ∈ xs, ∃ kb ko c, RQ kb ∧ x.2 = .slice (some ⟨kb, ko, none⟩) 480 c ∧ Bsl wr (some ⟨kb, ko, none⟩) c x.1.d
  fr : Fr (fun b => RL b ∨ RD0 b) w0 wr
  lt0 : ∀ b, (RP b ∨ RQ b ∨ RL b ∨ b = f) → b < w0.heap.size
section
variable {RP RQ : Nat → Prop} {w0 wr w' : World} {p f l d pages : Nat} {frames hand : Int} {B : Nat} {rv : Value} {fs : List (Nat × Frm)} {cur : Nat → Option PgV} {L0 L : LS} {S : DS} {T : Nat} {lot : List PgV} {RL RD0 RD : Nat → Prop} {N : Nat} {A : Option Addr} {ys : List (Nat × Frm)} {v : Value} {xs : List (PgV × Value)}
theorem WSt.new (h : WSt RP RQ w0 wr p f l d pages frames hand B rv fs cur L0 L S T lot RL RD0 RD N A ys v xs) (hf : Fr Nob wr w') : WSt RP RQ w0 w' p f l d pages frames hand B rv fs cur L0 L S T lot RL RD0 RD N A ys v xs :=
  { h with
    pool := h.pool.new hf
    und := h.und.new hf
    ptr := h.ptr.fr hf (fun _ _ h => h.elim)
    row := own_fr h.row hf (fun _ _ h => h)
    cells := fun x hx => by
      obtain ⟨kb, ko, c, h1, h2, h3⟩ := h.cells x hx
      exact ⟨kb, ko, c, h1, h2, h3.new hf⟩
    fr := h.fr.trans (hf.mono (fun _ _ h => h.elim)) }
/-- A page more. -/
theorem WSt.push (h : WSt RP RQ w0 wr p f l d pages frames hand B rv fs cur L0 L S T lot RL RD0 RD N A ys v xs) {v7 : Value} {y : Nat × Frm} {kb ko c : Nat} (hq : RQ kb) (hb : Bsl wr (some ⟨kb, ko, none⟩) c y.2.x.d)
    (hown : w'.ownsRow w0.heap.size 84 3 v7 (xs.length + 1) (pgCells xs ++ [.int .i64 y.2.x.no, .int .u64 y.2.x.lsn, .slice (some ⟨kb, ko, none⟩) 480 c])) (hg : wr.grownBy w' v.ownBlock) (hat : v7.ownBlock = v.ownBlock ∨ v7.ownBlock = some wr.heap.size) :
    WSt RP RQ w0 w' p f l d pages frames hand B rv fs cur L0 L S T lot RL RD0 RD N A ys v7 (xs ++ [(y.2.x, .slice (some ⟨kb, ko, none⟩) 480 c)]) := by
  have f7 : Fr (fun b => some b = v.ownBlock) wr w' := Fr.grown (Fr.refl _ _) hg (fun r hr => .inr hr.symm)
  have hlt := fun g hg => h.row.lt g hg
  have hz := h.fr.size
  have hn : ∀ b, b < w0.heap.size → ¬ some b = v.ownBlock := fun b hb e => by have := hlt b e.symm; omega
  exact { h with
    pool := h.pool.fr f7 (fun b hb => hn b (h.lt0 b (.inl hb))) (fun b hb => hn b (h.lt0 b (.inr (.inl hb))))
    und := h.und.fr f7 (fun b hb => hn b (h.lt0 b (.inr (.inr (.inl hb))))) (fun b hb e => h.rap b e.symm hb) (hn f (h.lt0 f (.inr (.inr (.inr rfl)))))
    ptr := h.ptr.fr f7 (fun b _ e => .inr (.inr (.inr (.inr (hlt b e.symm).1))))
    row := by rw [List.length_append, List.length_singleton, pgCells_snoc]; exact hown
    rap := fun g hg hd => by
      rcases hat with e | e
      · exact h.rap g (by rw [← e]; exact hg) hd
      · rw [e] at hg
        injection hg with hg
        have := h.und.disk.lt hd
        omega
    cells := fun x hx => by
      have hkeep : ∀ kb ko c (dd : List UInt8), RQ kb → Bsl wr (some ⟨kb, ko, none⟩) c dd → Bsl w' (some ⟨kb, ko, none⟩) c dd := fun kb ko c dd hq hb => hb.fr f7 (fun a ha => by injection ha with ha; subst ha; exact hn kb (h.lt0 kb (.inr (.inl hq))))
      rcases List.mem_append.1 hx with hx | hx
      · obtain ⟨kb, ko, c, h1, h2, h3⟩ := h.cells x hx
        exact ⟨kb, ko, c, h1, h2, hkeep _ _ _ _ h1 h3⟩
      · rw [List.mem_singleton] at hx
        subst hx
        exact ⟨kb, ko, c, hq, rfl, hkeep _ _ _ _ hq hb⟩
    fr := h.fr.step f7 (fun i hi e => absurd e (hn i hi)) }
/-- The log is flushed in between. -/
theorem WSt.flushed (h : WSt RP RQ w0 wr p f l d pages frames hand B rv fs cur L0 L S T lot RL RD0 RD N A ys v xs) :
    Calls Tryz.prog 50 #[.pointer (some ⟨l, 0, none⟩)] wr fun e w' => e = .returned (.int .i64 0) ∧ ∃ L' S' RD', WSt RP RQ w0 w' p f l d pages frames hand B rv fs cur L0 L' S' T lot RL RD0 RD' N A ys v xs := by
  refine h.und.flush.mono ?_
  rintro e w' ⟨rfl, L', S', RD', hu, hs, hsub, hf⟩
  have hz := h.fr.size
  have hrow : ∀ g, v.ownBlock = some g → ¬ (RL g ∨ RD g) := fun g hg e => by
    rcases e with e | e
    · have := h.lt0 g (.inr (.inr (.inl e))); have := (h.row.lt g hg).1; omega
    · exact h.rap g hg e
  refine ⟨rfl, L', S', RD', ?_⟩
  exact {
    pool := h.pool.fr hf (fun b hb e => by
      rcases e with e | e
      · exact (h.ap b (.inl hb)).1 e
      · exact (h.ap b (.inl hb)).2.1 e) (fun b hb e => by
      rcases e with e | e
      · exact (h.ap b (.inr hb)).1 e
      · exact (h.ap b (.inr hb)).2.1 e)
    und := hu
    same := h.same.trans hs
    sub := fun b hb => by
      rcases hsub b hb with e | e
      · exact h.sub b e
      · exact .inr (by omega)
    ap := fun b hb => ⟨(h.ap b hb).1, fun e => by
      rcases hsub b e with e | e
      · exact (h.ap b hb).2.1 e
      · have := h.lt0 b (hb.elim .inl (fun h => .inr (.inl h))); omega, (h.ap b hb).2.2⟩
    ptr := h.ptr.fr hf (fun b _ e => by
      rcases e with e | e
      · exact .inr (.inl e)
      · rcases h.sub b e with e | e
        · exact .inr (.inr (.inl e))
        · exact .inr (.inr (.inr (.inr e))))
    row := own_fr h.row hf hrow
    rap := fun g hg e => by
      rcases hsub g e with e | e
      · exact h.rap g hg e
      · have := own_lt h.row hg; omega
    cells := fun x hx => by
      obtain ⟨kb, ko, c, h1, h2, h3⟩ := h.cells x hx
      exact ⟨kb, ko, c, h1, h2, h3.fr hf (fun a ha e => by
        injection ha with ha; subst ha
        rcases e with e | e
        · exact (h.ap kb (.inr h1)).1 e
        · exact (h.ap kb (.inr h1)).2.1 e)⟩
    fr := h.fr.step hf (fun i hi e => by
      rcases e with e | e
      · exact .inl e
      · rcases h.sub i e with e | e
        · exact .inr e
        · omega)
    lt0 := h.lt0 }
/-- The row, as the file takes it. -/
theorem WSt.pgs (h : WSt RP RQ w0 wr p f l d pages frames hand B rv fs cur L0 L S T lot RL RD0 RD N A ys v xs) : ∃ A' c, v = .slice A' xs.length c ∧ PgsIn (fun b => RD b ∨ b = f) wr A' xs := by
  by_cases h0 : 0 < xs.length
  · obtain ⟨g, cap, rfl, hgb, hgl⟩ := h.row.form h0
    have hgb : w0.heap.size ≤ g := hgb
    refine ⟨some ⟨g, 0, none⟩, cap, rfl, fun _ => ⟨g, rfl, fun e => ?_, fun j x hx => ?_⟩⟩
    · rcases e with e | e
      · exact h.rap g rfl e
      · have := h.lt0 g (.inr (.inr (.inr e))); omega
    · obtain ⟨a1, a2, a3⟩ := pgCells_at xs j x hx
      have hc := h.row.cells (g := g) rfl
      have k1 := hc _ _ a1
      have k2 := hc _ _ a2
      have k3 := hc _ _ a3
      rw [addr_add0] at k1 k2 k3
      obtain ⟨kb, ko, c, h1, h2, h3⟩ := h.cells x (List.mem_of_getElem? hx)
      exact ⟨k1, k2, k3, kb, ko, c, h2, h3, fun e => by
        rcases e with e | e
        · exact (h.ap kb (.inr h1)).2.1 e
        · exact (h.ap kb (.inr h1)).2.2 e⟩
  · obtain rfl : xs = [] := List.eq_nil_of_length_eq_zero (by omega)
    rcases h.row.2 with ⟨rfl, _⟩ | ⟨g, cap, _, rfl, _⟩
    · exact ⟨none, 0, rfl, fun h => absurd h (by simp)⟩
    · exact ⟨some ⟨g, 0, none⟩, cap, rfl, fun h => absurd h (by simp)⟩
end

/-! ### frames that were written -/
def cleanF (ns : List Nat) (fs : List (Nat × Frm)) : List (Nat × Frm) := fs.map fun y => if y.2.x.no ∈ ns then (y.1, { y.2 with dirty := false }) else y
theorem cleanF_nil (fs : List (Nat × Frm)) : cleanF [] fs = fs := by simp [cleanF]
theorem cleanF_get {ns : List Nat} {fs : List (Nat × Frm)} {i : Nat} {y : Nat × Frm} (h : fs[i]? = some y) : (cleanF ns fs)[i]? = some (if y.2.x.no ∈ ns then (y.1, { y.2 with dirty := false }) else y) := by
  unfold cleanF
  rw [List.getElem?_map, h]; rfl
theorem cleanF_mem {ns : List Nat} {fs : List (Nat × Frm)} {y : Nat × Frm} (h : y ∈ cleanF ns fs) : ∃ z ∈ fs, z.1 = y.1 ∧ z.2.x = y.2.x ∧ z.2.used = y.2.used ∧ ((y.2.x.no ∈ ns ∧ y.2.dirty = false) ∨ (y.2.x.no ∉ ns ∧ y = z)) := by
  unfold cleanF at h
  obtain ⟨z, hz, rfl⟩ := List.mem_map.1 h
  refine ⟨z, hz, ?_⟩
  by_cases e : z.2.x.no ∈ ns
  · rw [if_pos e]; exact ⟨rfl, rfl, rfl, .inl ⟨e, rfl⟩⟩
  · rw [if_neg e]; exact ⟨rfl, rfl, rfl, .inr ⟨e, rfl⟩⟩
theorem cleanF_step {ns : List Nat} {fs : List (Nat × Frm)} {i : Nat} {y : Nat × Frm} (h : fs[i]? = some y) (hap : ∀ (j : Nat) z, fs[j]? = some z → z.2.x.no = y.2.x.no → j = i) {m : Nat × Frm} (hm : (cleanF ns fs)[i]? = some m) :
    (cleanF ns fs).set i (m.1, { m.2 with dirty := false }) = cleanF (ns ++ [y.2.x.no]) fs := by
  refine List.ext_getElem? (fun j => ?_)
  rw [List.getElem?_set]
  by_cases e : i = j
  · subst e
    rw [if_pos rfl, if_pos (List.getElem?_eq_some_iff.1 hm).1, cleanF_get h, if_pos (List.mem_append_right _ (List.mem_singleton.2 rfl))]
    rw [cleanF_get h] at hm
    injection hm with hm
    subst hm
    split <;> rfl
  · rw [if_neg e]
    cases hj : fs[j]? with
    | none =>
      have hjl : fs.length ≤ j := List.getElem?_eq_none_iff.1 hj
      rw [List.getElem?_eq_none (by simp [cleanF]; exact hjl), List.getElem?_eq_none (by simp [cleanF]; exact hjl)]
    | some z =>
      rw [cleanF_get hj, cleanF_get hj]
      have hne : z.2.x.no ≠ y.2.x.no := fun e2 => e (hap j z hj e2).symm
      by_cases e2 : z.2.x.no ∈ ns
      · rw [if_pos e2, if_pos (List.mem_append_left _ e2)]
      · rw [if_neg e2, if_neg (fun e3 => by
          rcases List.mem_append.1 e3 with e3 | e3
          · exact e2 e3
          · exact hne (List.mem_singleton.1 e3))]
theorem Views.cleaned {fs : List (Nat × Frm)} {cur cur' : Nat → Option PgV} {pages : Nat} {V : Nat → PgV} (h : Views fs cur pages V) (ns : List Nat) (h1 : ∀ no, no ∉ ns → cur' no = cur no) (h2 : ∀ y ∈ fs, y.2.x.no ∈ ns → cur' y.2.x.no = some y.2.x) (h3 : ∀ n ∈ ns, ∃ y ∈ fs, y.2.x.no = n) : Views (cleanF ns fs) cur' pages V := by
  refine ⟨fun y hy => ?_, fun y hy => ?_, fun no hno hc => ?_⟩
  · obtain ⟨z, hz, _, e, _⟩ := cleanF_mem hy; rw [← e]; exact h.ok z hz
  · obtain ⟨z, hz, _, e, _⟩ := cleanF_mem hy; rw [← e]; exact h.held z hz
  · by_cases e : no ∈ ns
    · obtain ⟨y, hy, hyn⟩ := h3 no e
      have := h2 y hy (by rw [hyn]; exact e)
      rw [hyn] at this
      rw [this]
      have hv := h.held y hy
      rw [hyn] at hv
      exact hv
    · rw [h1 no e]
      refine h.file no hno (fun y hy he => ?_)
      have hy' : y ∈ cleanF ns fs := by
        unfold cleanF
        refine List.mem_map.2 ⟨y, hy, ?_⟩
        rw [if_neg (by rw [he]; exact e)]
      exact hc y hy' he
theorem curW_not (cur : Nat → Option PgV) (l : List PgV) (no : Nat) (h : ∀ x ∈ l, x.no ≠ no) : ∀ k, curW cur l k no = cur no
  | 0 => rfl
  | k + 1 => by
    unfold curW
    cases hx : l[k]? with
    | none => exact curW_not cur l no h k
    | some x =>
      dsimp only
      rw [if_neg (fun e => h x (List.mem_of_getElem? hx) e.symm)]
      exact curW_not cur l no h k
end Go.Proofs.YtfapklpcgcgahaaGreatDoor

/-
  write walked.
-/
namespace Go.Proofs.YtfapklpcgcgahaaGreatDoor
set_option linter.unusedSimpArgs false
set_option linter.unusedVariables false
open Go.RowKit Go.Maps

section
variable {RP RQ : Nat → Prop} {w : World} {p f l d pages : Nat} {frames hand : Int} {B : Nat} {rv : Value} {fs : List (Nat × Frm)} {cur : Nat → Option PgV} {L : LS} {S : DS} {T : Nat} {lot : List PgV} {RL RD : Nat → Prop} {N : Nat}
set_option maxHeartbeats 6400000 in
set_option maxRecDepth 100000 in
theorem write_any (hp : PoolAt RP RQ w p f l frames hand B rv fs) (hu : Und w f l d pages cur L S T lot RL RD N) (hap : ∀ b, RP b ∨ RQ b → ¬ RL b ∧ ¬ RD b ∧ b ≠ f) (ys : List (Nat × Frm)) (A : Option Addr) (c : Nat)
    (hys : ∀ y ∈ ys, y ∈ fs) (hin : PtrsIn (fun b => RP b ∨ RL b ∨ RD b ∨ b = f ∨ w.heap.size ≤ b) w A ys) (h0 : 0 < ys.length) (h8 : ys.length ≤ 8) (hdis : ∀ (i j : Nat) x y, ys[i]? = some x → ys[j]? = some y → x.2.x.no = y.2.x.no → i = j) (hok : ∀ y ∈ fs, y.2.x.Ok ∧ y.2.x.no < pages) (hT : T + 1 < 4611686018427387904) :
    Calls Tryz.prog 83 #[.pointer (some ⟨p, 0, none⟩), .slice A ys.length c] w fun e w' => e = .returned (.int .i64 0) ∧ ∃ L' S' RD', PoolAt RP RQ w' p f l frames hand B rv (cleanF (ys.map (·.2.x.no)) fs) ∧ Und w' f l d pages (curW cur (ys.map (·.2.x)) ys.length) L' S' (T + 1) (ys.map (·.2.x)) RL RD' N ∧ LSame L L' ∧ (∀ b, RD' b → RD b ∨ w.heap.size ≤ b) ∧ Fr (fun b => RP b ∨ RL b ∨ RD b ∨ b = f) w w' := by
  obtain ⟨i0, hi0, hz0, hz1, hz2⟩ := info_parts info_Page
  have qP := len_ptrs
  obtain ⟨n, hn⟩ : ∃ n, ys.length = n := ⟨_, rfl⟩
  have HN := Lib.hid hn
  obtain ⟨ga, rfl, hgab, hgac⟩ := hin h0
  have HYs := Lib.hid hys
  have HDis := Lib.hid hdis
  have HOk := Lib.hid hok
  have hlt0 : ∀ b, (RP b ∨ RQ b ∨ RL b ∨ b = f) → b < w.heap.size := fun b hb => by
    rcases hb with hb | hb | hb | hb
    · exact hp.lt b hb
    · exact hp.ltq b hb
    · exact hu.log.lt hb
    · rw [hb]; exact hu.flt
  have HSt : Hid (WSt RP RQ w w p f l d pages frames hand B rv fs cur L L S T lot RL RD RD N (some ⟨ga, 0, none⟩) ys (.slice none 0 0) []) := {
    pool := hp
    und := hu
    same := LSame.refl L
    sub := fun b hb => .inl hb
    ap := hap
    ptr := hin
    row := World.ownsRow_nil _ _ _ _
    rap := fun g hg => by simp [Value.ownBlock] at hg
    cells := fun x hx => by simp at hx
    fr := Fr.refl _ _
    lt0 := hlt0 }
  have HPdis := Lib.hid (fun (i j : Nat) (y z : Nat × Frm) (hi : fs[i]? = some y) (hj : fs[j]? = some z) (e : y.2.x.no = z.2.x.no) => hp.apart hi hj e)
  rw [hn] at h0 h8 ⊢
  clear hp hu hys hin hdis hok hn hgac
  go_enter Tryz.func83, Tryz.ntmps83
  go_wp2
  try (rw [qP]; go_wp2)
  go_loopw [5, 7, 8, 14] (fun pv _ _ iv wr => ∃ (k : Nat) (xs : List (PgV × Value)), k ≤ n ∧ iv = .int .i64 k ∧ Hid (xs.length = k ∧ xs.map (·.1) = (ys.take k).map (·.2.x)) ∧ Hid (∃ (L' : LS) (S' : DS) (RD' : Nat → Prop), WSt RP RQ w wr p f l d pages frames hand B rv fs cur L L' S' T lot RL RD RD' N (some ⟨ga, 0, none⟩) ys pv xs)) (fun _ _ _ iv _ => n - (intOf iv).toNat)
  case atStart => exact ⟨0, [], by omega, rfl, ⟨rfl, rfl⟩, L, S, RD, HSt.out⟩
  case round =>
    clear HSt
    obtain ⟨k, xs, hk, rfl, hxs, hst⟩ := hrel
    obtain ⟨L', S', RD', hst⟩ := hst.out
    by_cases hlt : k < n
    · obtain ⟨y, hy⟩ : ∃ y, ys[k]? = some y := ⟨_, List.getElem?_eq_getElem (by rw [HN.out]; exact hlt)⟩
      have HY := Lib.hid hy
      obtain ⟨b, m⟩ := y
      have hyf : (b, m) ∈ fs := HYs.out _ (List.mem_of_getElem? hy)
      obtain ⟨g', eg, _, hgc⟩ := hst.ptr (by rw [HN.out]; omega)
      injection eg with eg
      injection eg with eg
      subst eg
      have cg := hgc k _ hy
      have zg := cell_lt cg
      dsimp only at cg zg
      obtain ⟨rb, kb, ko, cc, rq, hfb, hbs⟩ := hst.pool.frm _ hyf
      dsimp only at rb hfb hbs
      have HFb := Lib.hid hfb
      have HRq := Lib.hid rq
      have HBs := Lib.hid hbs
      have b0 := hfb.cell 0
      have b1 := hfb.cell 1
      have b2 := hfb.cell 2
      have zb := hfb.lt
      simp only [List.getElem?_toArray, List.getElem?_cons_zero, List.getElem?_cons_succ] at b0 b1 b2
      have kk0 : (k : Int) < (n : Int) := by omega
      have kk1 : (0 : Int) ≤ (k : Int) := by omega
      have e8 : IntKind.i64.wrap ((k : Int) + 1) = (k : Int) + 1 := by rw [IntKind.wrap_i64]; omega
      have HSt := Lib.hid hst
      have HXs := Lib.hid hxs.out
      have hxl : xs.length ≤ 8 := by rw [hxs.out.1]; omega
      have hzw := hst.fr.size
      have HRa : Hid ((wr.alloc (.cells #[.int .i64 m.x.no, .int .u64 m.x.lsn, .slice (some ⟨kb, ko, none⟩) 480 cc] 84)).ownsRow w.heap.size 84 3 u5 xs.length (pgCells xs)) := hst.row.alloc _
      have HNw : Hid (∀ (j : Nat) u, ([.int .i64 m.x.no, .int .u64 m.x.lsn, .slice (some ⟨kb, ko, none⟩) 480 cc] : List Value)[j]? = some u → (wr.alloc (.cells #[.int .i64 m.x.no, .int .u64 m.x.lsn, .slice (some ⟨kb, ko, none⟩) 480 cc] 84)).cell? ((⟨wr.heap.size, 0, none⟩ : Addr).add j) = some u) := fun j u hu => by
        have hb := Blk.new wr 84 #[.int .i64 m.x.no, .int .u64 m.x.lsn, .slice (some ⟨kb, ko, none⟩) 480 cc]
        rw [Addr.add_mid, Nat.zero_add]; exact (hb.cell j).trans (by simpa using hu)
      clear hst hxs hy hfb hbs rq hgc
      go_wp2_with (at_builtin; go_must (refine wpList_append_own_at _ rfl (.tmp 18) (.tmp 23) 104 rfl w.heap.size 84 i0 (.agg #[.int .i64 0, .int .u64 0, .slice none 0 0]) 3 40 Tryz.underlying104 hi0 hz0 hz1 hz2 rfl (by decide) u5 xs.length (pgCells xs) rfl HRa.out ⟨wr.heap.size, 0, none⟩ 1 1 [.int .i64 m.x.no, .int .u64 m.x.lsn, .slice (some ⟨kb, ko, none⟩) 480 cc] rfl rfl HNw.out (by simp [Value.oneCell']) (by unfold maxLen; omega) (by omega) (by simp; omega) ?_); intro v7 w7 hown7 hg7 hn7 hat7; have HO7 := Lib.hid hown7; have HG7 := Lib.hid hg7; have HA7 := Lib.hid hat7; clear hown7 hg7 hn7 hat7)
      have hpush : WSt RP RQ w w7 p f l d pages frames hand B rv fs cur L L' S' T lot RL RD RD' N (some ⟨ga, 0, none⟩) ys v7 (xs ++ [(m.x, .slice (some ⟨kb, ko, none⟩) 480 cc)]) :=
        (HSt.out.new ((Fr.refl Nob wr).alloc (.cells #[.int .i64 m.x.no, .int .u64 m.x.lsn, .slice (some ⟨kb, ko, none⟩) 480 cc] 84))).push (y := (b, m)) HRq.out (HBs.out.new ((Fr.refl Nob wr).alloc _)) HO7.out HG7.out HA7.out
      have HSt7 := Lib.hid hpush
      have HXs7 : Hid ((xs ++ [(m.x, Value.slice (some ⟨kb, ko, none⟩) 480 cc)]).length = k + 1 ∧ (xs ++ [(m.x, Value.slice (some ⟨kb, ko, none⟩) 480 cc)]).map (·.1) = (ys.take (k + 1)).map (·.2.x)) := by
        refine ⟨by rw [List.length_append, HXs.out.1]; rfl, ?_⟩
        rw [List.take_add_one, HY.out, List.map_append, List.map_append, HXs.out.2]; rfl
      obtain ⟨rb', kb', ko', cc', rq', hfb', _⟩ := hpush.pool.frm _ hyf
      dsimp only at hfb'
      have fb1 := hfb'.cell 1
      have zb2 := hfb'.lt
      have p1 := hpush.pool.blk.cell 1
      have zp2 := hpush.pool.blk.lt
      simp only [List.getElem?_toArray, List.getElem?_cons_zero, List.getElem?_cons_succ] at fb1 p1
      obtain ⟨gt, hgt⟩ : ∃ gt, decide (L'.flushed < m.x.lsn) = gt := ⟨_, rfl⟩
      clear hpush hfb' rq' rb'
      have hS : Fr Nob w7 w7.drew := (Fr.refl _ w7).drew
      refine Rg.begin (Fr Nob w7) [] (by kernel_rfl) ?_
      refine Rg.op 0 (some 25) hS (v := ?v0a) (hy := fun wz hwz => ?h0a) (h := ?_)
      case h0a => (go_simp; try with_reducible rfl)
      refine Rg.op 1 (some 26) hS (v := ?v1a) (hy := fun wz hwz => ?h1a) (h := ?_)
      case h1a => (have hpp := Nat.lt_of_lt_of_le zb2 hwz.size; go_simp; try with_reducible rfl)
      refine Rg.op 2 (some 27) hS (v := ?v2a) (hy := fun wz hwz => ?h2a) (h := ?_)
      case h2a => (go_simp; try with_reducible rfl)
      refine Rg.op 3 (some 28) hS (v := ?v3a) (hy := fun wz hwz => ?h3a) (h := ?_)
      case h3a => (go_simp; try with_reducible rfl)
      refine Rg.op 4 (some 29) hS (v := (.int .u64 m.x.lsn)) (hy := fun wz hwz => ?h4a) (h := ?_)
      case h4a => (have cx := (hwz.cell (p := ⟨b, 1, none⟩) zb2 (fun h => h)).trans fb1; have hpp := Nat.lt_of_lt_of_le zb2 hwz.size; go_simp; try with_reducible rfl)
      refine Rg.op 5 (some 30) hS (v := ?v5a) (hy := fun wz hwz => ?h5a) (h := ?_)
      case h5a => (go_simp; try with_reducible rfl)
      refine Rg.op 6 (some 31) hS (v := ?v6a) (hy := fun wz hwz => ?h6a) (h := ?_)
      case h6a => (have hpp := Nat.lt_of_lt_of_le zp2 hwz.size; go_simp; try with_reducible rfl)
      refine Rg.op 7 (some 32) hS (v := ?v7a) (hy := fun wz hwz => ?h7a) (h := ?_)
      case h7a => (go_simp; try with_reducible rfl)
      refine Rg.op 8 (some 33) hS (v := (.pointer (some ⟨l, 0, none⟩))) (hy := fun wz hwz => ?h8a) (h := ?_)
      case h8a => (have cx := (hwz.cell (p := ⟨p, 1, none⟩) zp2 (fun h => h)).trans p1; have hpp := Nat.lt_of_lt_of_le zp2 hwz.size; go_simp; try with_reducible rfl)
      refine Rg.call 9 (some 34) (hrun := ?h9a) (hcall := Flushed_any (HSt7.out.und.log.new hS)) (h := ?_)
      case h9a => (go_simp)
      rintro e w3 ⟨rfl, rfl⟩
      refine ⟨_, ?a9a, rfl, ?b9a, (fun _ => hS), ?_⟩
      case b9a => (simp only [Act.put, List.setIfInBounds_toArray, List.set_cons_zero, List.set_cons_succ]; rfl)
      refine Rg.op 10 (some 35) hS (v := (.bool gt)) (hy := fun wz hwz => ?h10a) (h := ?_)
      case h10a => (have hq := hgt; go_simp; try with_reducible rfl)
      refine Rg.done _ (h := ?_)
      cases gt
      · go_wp2
        go_roundw
        case rel => exact ⟨k + 1, xs ++ [(m.x, Value.slice (some ⟨kb, ko, none⟩) 480 cc)], by omega, by go_num, HXs7, L', S', RD', HSt7.out.new ((Fr.refl _ w7).drew)⟩
        case measure => simp [intOf]; omega
      · have HSt7d := Lib.hid (HSt7.out.new hS)
        have p1 : w7.drew.cell? ⟨p, 1, none⟩ = some (.pointer (some ⟨l, 0, none⟩)) := p1
        have zp2 : p < w7.drew.heap.size := zp2
        go_wp2_with fail
        refine HSt7d.out.flushed.mono ?_
        rintro e w8 ⟨rfl, L8, S8, RD8, hst8⟩
        have HSt8 := Lib.hid hst8
        clear hst8
        go_wp2
        go_roundw
        case rel => exact ⟨k + 1, xs ++ [(m.x, Value.slice (some ⟨kb, ko, none⟩) 480 cc)], by omega, by go_num, HXs7, L8, S8, RD8, HSt8.out⟩
        case measure => simp [intOf]; omega
    · obtain rfl : k = n := by omega
      obtain ⟨A', c', e5, hpg⟩ := hst.pgs
      subst e5
      obtain ⟨hxl, hxm⟩ := hxs.out
      rw [List.take_of_length_le (by rw [HN.out]; exact Nat.le_refl _)] at hxm
      have HSt := Lib.hid hst
      have HXm := Lib.hid hxm
      have HPg := Lib.hid hpg
      have hget : ∀ (i : Nat) x, xs[i]? = some x → ∃ y, ys[i]? = some y ∧ y.2.x = x.1 := fun i x hx => by
        have := congrArg (fun l => l[i]?) hxm
        simp only [List.getElem?_map, hx, Option.map_some] at this
        obtain ⟨y, hy, e⟩ := Option.map_eq_some_iff.1 this.symm
        exact ⟨y, hy, e⟩
      have hwr := hst.und.write A' c' xs hpg (fun x hx => by
        obtain ⟨i, hi⟩ := List.mem_iff_getElem?.1 hx
        obtain ⟨y, hy, e⟩ := hget i x hi
        rw [← e]
        exact HOk.out y (HYs.out y (List.mem_of_getElem? hy))) (by omega) (by omega) (fun i j x y hx hy e => by
        obtain ⟨x', hx', e1⟩ := hget i x hx
        obtain ⟨y', hy', e2⟩ := hget j y hy
        exact HDis.out i j x' y' hx' hy' (by rw [e1, e2]; exact e)) hT
      rw [hxm, hxl] at hwr
      have HWr := Lib.hid hwr
      have p0 := hst.pool.blk.cell 0
      have zp := hst.pool.blk.lt
      simp only [List.getElem?_toArray, List.getElem?_cons_zero, List.getElem?_cons_succ] at p0
      rw [hxl]
      clear hst hxs hxm hpg hget hwr
      go_wp2_with fail
      refine HWr.out.mono ?_
      rintro e w1 ⟨rfl, S1, RD1, hu1, hsub1, hf1⟩
      have hpool1 : PoolAt RP RQ w1 p f l frames hand B rv fs := HSt.out.pool.fr hf1 (fun b hb e => by
        rcases e with e | e
        · exact (HSt.out.ap b (.inl hb)).2.1 e
        · exact (HSt.out.ap b (.inl hb)).2.2 e) (fun b hb e => by
        rcases e with e | e
        · exact (HSt.out.ap b (.inr hb)).2.1 e
        · exact (HSt.out.ap b (.inr hb)).2.2 e)
      have HP1 := Lib.hid hpool1
      have HU1 := Lib.hid hu1
      have HSub1 := Lib.hid hsub1
      have HF1 := Lib.hid hf1
      have HCell : Hid (∀ W, Fr RP w1 W → ∀ (j : Nat) y, ys[j]? = some y → W.cell? ⟨ga, j, none⟩ = some (.pointer (some ⟨y.1, 0, none⟩)) ∧ ga < W.heap.size) := fun W hW j y hy => by
        obtain ⟨g', eg, hgb, hgc⟩ := HSt.out.ptr (by rw [HN.out]; omega)
        injection eg with eg
        injection eg with eg
        subst eg
        have c0 := hgc j y hy
        have z0 := cell_lt c0
        have c1 := (hf1.cell (p := ⟨ga, j, none⟩) z0 (fun e => by
          rcases e with e | e
          · rcases HSt.out.sub _ e with e | e
            · exact hgb (.inr (.inr (.inl e)))
            · exact hgb (.inr (.inr (.inr (.inr e))))
          · exact hgb (.inr (.inr (.inr (.inl e)))))).trans c0
        have z1 := cell_lt c1
        exact ⟨(hW.cell (p := ⟨ga, j, none⟩) z1 (fun e => hgb (.inl e))).trans c1, Nat.lt_of_lt_of_le z1 hW.size⟩
      clear hpool1 hu1 hsub1 hf1 HWr p0 zp
      go_wp2
      try (rw [qP]; go_wp2)
      go_loopw [11, 56] (fun _ iv wq => ∃ j : Nat, j ≤ k ∧ iv = .int .i64 j ∧ Hid (PoolAt RP RQ wq p f l frames hand B rv (cleanF ((ys.take j).map (·.2.x.no)) fs)) ∧ Hid (Fr RP w1 wq)) (fun _ iv _ => k - (intOf iv).toNat)
      case atStart => exact ⟨0, by omega, rfl, by rw [List.take_zero, List.map_nil, cleanF_nil]; exact HP1, Fr.refl _ _⟩
      case round =>
        obtain ⟨j, hj, rfl, hpq, hfq⟩ := hrel
        by_cases hlt : j < k
        · obtain ⟨y, hy⟩ : ∃ y, ys[j]? = some y := ⟨_, List.getElem?_eq_getElem (by rw [HN.out]; exact hlt)⟩
          obtain ⟨cg, zg⟩ := HCell.out _ hfq.out j y hy
          have HY := Lib.hid hy
          obtain ⟨i, hi⟩ := List.mem_iff_getElem?.1 (HYs.out y (List.mem_of_getElem? hy))
          have HI := Lib.hid hi
          obtain ⟨mm, hmm⟩ : ∃ mm, (cleanF ((ys.take j).map (·.2.x.no)) fs)[i]? = some mm := ⟨_, cleanF_get hi⟩
          have hm1 : mm.1 = y.1 ∧ mm.2.x = y.2.x ∧ mm.2.used = y.2.used := by
            rw [cleanF_get hi] at hmm
            injection hmm with hmm
            subst hmm
            split <;> exact ⟨rfl, rfl, rfl⟩
          obtain ⟨b, m⟩ := mm
          have HMm := Lib.hid hmm
          have HM1 := Lib.hid hm1
          have e1 : b = y.1 := hm1.1
          rw [← e1] at cg
          obtain ⟨rb, kb, ko, cc, rq, hfb, hbs⟩ := hpq.out.frm _ (List.mem_of_getElem? hmm)
          dsimp only at rb hfb hbs
          have HFb := Lib.hid hfb
          have HBs := Lib.hid hbs
          have HRq := Lib.hid rq
          have fb3 := hfb.cell 3
          have fq3 := hfb.frozen 3
          have zb := hfb.lt
          simp only [List.getElem?_toArray, List.getElem?_cons_zero, List.getElem?_cons_succ] at fb3
          have kk0 : (j : Int) < (k : Int) := by omega
          have kk1 : (0 : Int) ≤ (j : Int) := by omega
          have e8 : IntKind.i64.wrap ((j : Int) + 1) = (j : Int) + 1 := by rw [IntKind.wrap_i64]; omega
          clear hy hi hmm hm1 e1 hfb hbs rq
          go_wp2
          have hfs : Fr (fun x => x = b) _ _ := (Fr.refl (fun x => x = b) wr).setCell (p := ⟨b, 3, none⟩) (.inr rfl) (.bool false)
          have hm' : FrmAt RP RQ (wr.setCell ⟨b, 3, none⟩ (.bool false)) b { m with dirty := false } := ⟨rb, kb, ko, cc, HRq.out, HFb.out.set_ 3 _, HBs.out.fr hfs (fun a ha e => by injection ha with ha; subst ha; exact hpq.out.ap b rb (e ▸ HRq.out))⟩
          have hstep := hpq.out.setF (m' := { m with dirty := false }) HMm.out hfs rfl hm'
          have hcl := cleanF_step HI.out (fun j' z hz e => HPdis.out j' i z y hz HI.out e) HMm.out
          dsimp only at hcl
          rw [hcl] at hstep
          go_roundw
          case rel => exact ⟨j + 1, by omega, by go_num, by rw [List.take_add_one, HY.out, List.map_append]; exact hstep, hfq.out.setCell (p := ⟨b, 3, none⟩) (.inr rb) _⟩
          case measure => simp [intOf]; omega
        · obtain rfl : j = k := by omega
          have HPq := Lib.hid hpq.out
          have HFq := Lib.hid hfq.out
          clear hpq hfq
          go_wp2
          go_ret
          refine ⟨rfl, L', S1, RD1, ?_, ?_, HSt.out.same, ?_, ?_⟩
          · have := HPq.out
            rwa [List.take_of_length_le (by rw [HN.out]; exact Nat.le_refl _)] at this
          · have hF := HFq.out
            exact HU1.out.fr hF (fun b hb e => (HSt.out.ap b (.inl e)).1 hb) (fun b hb e => by
              rcases HSub1.out b hb with h | h
              · exact (HSt.out.ap b (.inl e)).2.1 h
              · have := HSt.out.pool.lt b e; omega) (fun e => (HSt.out.ap f (.inl e)).2.2 rfl)
          · intro b hb
            rcases HSub1.out b hb with h | h
            · exact HSt.out.sub b h
            · have := HSt.out.fr.size; exact .inr (by omega)
          · have hF := HFq.out
            have hG := HF1.out
            have hH := HSt.out.fr
            refine ((hH.mono (fun b _ e => .inr (e.elim .inl (fun e => .inr (.inl e)))) : Fr (fun b => RP b ∨ RL b ∨ RD b ∨ b = f) _ _).step hG (fun i hi e => ?_)).step hF (fun i hi e => .inl e)
            rcases e with e | e
            · rcases HSt.out.sub i e with e | e
              · exact .inr (.inr (.inl e))
              · omega
            · exact .inr (.inr (.inr e))
end
end Go.Proofs.YtfapklpcgcgahaaGreatDoor
