/-
  Commands: what of memory the library wants (Env), and the small functions: Number, fits, Clip.
-/
import Derived.Test.YtidohbhcjnmmeaaDoorBytes0
import Derived.Test.YtidohbhcjnmmeaaDoorCmdShelf
import Derived.Lib.SmallJoins
import Derived.Lib.AtoiErrMem
namespace Go.Proofs.YtidohbhcjnmmeaaDoor
set_option linter.unusedSimpArgs false
set_option linter.unusedVariables false
open Go.RowKit

/-- What the library's functions want to find: the length of the longest short text, the two errors, the powers of ten. -/
structure Env (w : World) : Prop where
  most : ∃ m, w.cell? ⟨0, 0, none⟩ = some (.int .i64 m)
  syn : ∃ ev, w.cell? ⟨4, 0, none⟩ = some ev ∧ (ev = .nilIface ∨ ∃ te pe, ev = .iface te pe)
  rng : ∃ ev, w.cell? ⟨5, 0, none⟩ = some ev ∧ (ev = .nilIface ∨ ∃ te pe, ev = .iface te pe)
  tab : Lib.TabIs Tryd.prog w "internal/strconv.uint64pow10" .u64 Lib.pow10Tab

theorem Env.below {w w' : World} (h : Env w) (hb : Below w.heap.size w w') : Env w' := by
  obtain ⟨m, hm⟩ := h.most
  obtain ⟨e, he, he'⟩ := h.syn
  obtain ⟨r, hr, hr'⟩ := h.rng
  have f := Fr.of_below hb
  have hn : ∃ g, Tryd.prog.globalNamed "internal/strconv.uint64pow10" = some g := by
    have := h.tab
    unfold Lib.TabIs World.var? at this
    cases hg : Tryd.prog.globalNamed "internal/strconv.uint64pow10" with
    | none => rw [hg] at this; cases this
    | some g => exact ⟨g, rfl⟩
  obtain ⟨g, hg⟩ := hn
  exact ⟨⟨m, (f.cell (cell_lt hm) (fun h => h)).trans hm⟩, ⟨e, (f.cell (cell_lt he) (fun h => h)).trans he, he'⟩, ⟨r, (f.cell (cell_lt hr) (fun h => h)).trans hr, hr'⟩,
    Go.Joins.tab_stays hg h.tab hb (Nat.le_refl _)⟩
theorem Env.new {w w' : World} (h : Env w) (hf : Fr Nob w w') : Env w' := h.below (hf.below (Nat.le_refl _) (fun _ h => h.elim))

/-- A text's bytes, and bytes' text. -/
def bs (s : ByteArray) : List UInt8 := s.data.toList
def tx (l : List UInt8) : ByteArray := ⟨l.toArray⟩
theorem tx_bs (s : ByteArray) : tx (bs s) = s := rfl
theorem bs_tx (l : List UInt8) : bs (tx l) = l := rfl
theorem bs_inj {s t : ByteArray} (h : bs s = bs t) : s = t := by rw [← tx_bs s, h, tx_bs]

/-- Number: what it finds. -/
def numC (l : List UInt8) : Option Int :=
  if 9 < (Lib.trimPrefix l [45]).length then none else
    match Lib.parseIntB 64 l with
    | .ok v => if Lib.itoa v = l then some v else none
    | _ => none

/-- The number's answer. -/
def NumIs (o : Option Int) (n : Int) (ok : Bool) : Prop := (-9223372036854775808 ≤ n ∧ n ≤ 9223372036854775807) ∧ ((ok = true ∧ o = some n) ∨ (ok = false ∧ o = none))

theorem parseIntB_in (l : List UInt8) (v : Int) (h : Lib.parseIntB 64 l = .ok v) : -9223372036854775808 ≤ v ∧ v ≤ 9223372036854775807 := by
  unfold Lib.parseIntB at h
  split at h
  · cases h
  · dsimp only at h
    split at h
    · cases h
    · cases h
    · rename_i u hu
      split at h
      · cases h
      · split at h
        · cases h
        · rename_i h1 h2
          injection h with h
          split at h <;> subst h <;> rename_i h3
          · have h4 : ¬ 9223372036854775808 < u := fun h5 => h2 ⟨h3, h5⟩
            omega
          · have h4 : ¬ 9223372036854775808 ≤ u := fun h5 => h1 ⟨h3, h5⟩
            omega

theorem fr_grow {w : World} (k : Nat) (os : Array Obj) : Fr Nob w (Go.Sort.grow (w.drewN k) os) := ⟨rfl, rfl, rfl, by simp [Go.Sort.grow, World.drewN], fun j hj _ => by
  have : j < (w.drewN k).heap.size := hj
  simp only [Go.Sort.grow]
  rw [Array.getElem?_append_left this]
  rfl⟩
theorem beq_tx (a b : ByteArray) : (a.toList == b.toList) = decide (bs a = bs b) := by
  rw [Lib.toList_data, Lib.toList_data]
  unfold bs
  cases h : decide (a.data.toList = b.data.toList) with
  | true => exact beq_iff_eq.2 (of_decide_eq_true h)
  | false => exact beq_eq_false_iff_ne.2 (of_decide_eq_false h)

/-- ParseInt's end. -/
def PEnd (l : List UInt8) (n : Int) (ev : Value) : Prop := (-9223372036854775808 ≤ n ∧ n ≤ 9223372036854775807) ∧ ((Lib.parseIntB 64 l = .ok n ∧ ev = .nilIface) ∨ ((∀ v, Lib.parseIntB 64 l ≠ .ok v) ∧ ∃ p, ev = .iface 116 p))

theorem ParseInt_any (s : ByteArray) (w : World) (he : Env w) (hs : s.size ≤ 100000) :
    Calls Tryd.prog 41 #[.string s, .int .i64 10, .int .i64 64] w fun e w' => ∃ n ev, e = .returned (.tuple #[.int .i64 n, ev]) ∧ PEnd (bs s) n ev ∧ Fr Nob w w' := by
  obtain ⟨e1, h1, h1'⟩ := he.syn
  obtain ⟨e2, h2, h2'⟩ := he.rng
  rcases h : Lib.parseIntB 64 s.data.toList with v | _ | _
  · refine (Tryd.strconv_ParseInt_10_at64_ok s (by omega) v h w).mono ?_
    rintro e w' ⟨rfl, hw⟩
    refine ⟨v, _, rfl, ⟨parseIntB_in _ _ h, .inl ⟨h, rfl⟩⟩, ?_⟩
    rcases hw with rfl | ⟨t, rfl⟩
    · exact Fr.refl _ _
    · exact Fr.of_below (Lib.bytesWorld_below w 5 t)
  · refine (Tryd.strconv_ParseInt_10_at64_syntax s (by omega) (fun v hv => by rw [h] at hv; cases hv) (fun hv => by rw [h] at hv; cases hv) e1 w h1 h1').mono ?_
    rintro e w' ⟨N, rfl, _, _, hb⟩
    exact ⟨0, _, rfl, ⟨by omega, .inr ⟨fun v hv => (by unfold bs at hv; rw [h] at hv; cases hv), _, rfl⟩⟩, Fr.of_below hb⟩
  · refine (Tryd.strconv_ParseInt_10_at64_range s (by omega) h e2 w h2 h2').mono ?_
    rintro e w' ⟨N, rfl, _, _, hb⟩
    refine ⟨_, _, rfl, ⟨?_, .inr ⟨fun v hv => (by unfold bs at hv; rw [h] at hv; cases hv), _, rfl⟩⟩, Fr.of_below hb⟩
    unfold Lib.intSat
    split <;> simp

theorem FormatInt_any (n : Int) (h0 : -9223372036854775808 ≤ n) (h1 : n ≤ 9223372036854775807) (w : World) (he : Env w) :
    Calls Tryd.prog 31 #[.int .i64 n, .int .i64 10] w fun e w' => e = .returned (.string (tx (Lib.itoa n))) ∧ Fr Nob w w' := by
  refine (Tryd.strconv_FormatInt_10 n h0 h1 w he.tab).mono ?_
  rintro e w' ⟨rfl, k, os, rfl⟩
  exact ⟨rfl, fr_grow k os⟩

theorem numC_ok {l : List UInt8} {v : Int} (h9 : ¬ 9 < (Lib.trimPrefix l [45]).length) (h : Lib.parseIntB 64 l = .ok v) : numC l = if Lib.itoa v = l then some v else none := by
  unfold numC; rw [if_neg h9, h]
theorem numC_no {l : List UInt8} (h9 : ¬ 9 < (Lib.trimPrefix l [45]).length) (h : ∀ v, Lib.parseIntB 64 l ≠ .ok v) : numC l = none := by
  unfold numC
  rw [if_neg h9]
  split
  · rename_i v hv; exact absurd hv (h v)
  · rfl

set_option maxHeartbeats 1600000 in
set_option maxRecDepth 100000 in
theorem Number_any (s : ByteArray) (w : World) (he : Env w) (hs : s.size ≤ 100000) :
    Calls Tryd.prog 29 #[.string s] w fun e w' => ∃ n ok, e = .returned (.tuple #[.int .i64 n, .bool ok]) ∧ NumIs (numC (bs s)) n ok ∧ Fr Nob w w' := by
  have hT := Lib.hid (Tryd.strings_TrimPrefix s ⟨#[45]⟩ w)
  have hP := Lib.hid (ParseInt_any s w he hs)
  obtain ⟨T, hTe⟩ : ∃ T, (Lib.trimPrefix s.data.toList [45]) = T := ⟨_, rfl⟩
  have HTE := Lib.hid hTe
  have qs : (⟨T.toArray⟩ : ByteArray).size = T.length := rfl
  go_enter Tryd.func29, Tryd.ntmps29
  go_wp2_with fail
  refine hT.out.mono ?_
  rintro e w1 ⟨rfl, rfl⟩
  rw [hTe]
  by_cases h9 : 9 < T.length
  · go_wp2
    go_ret2
    exact ⟨0, false, rfl, ⟨by omega, .inr ⟨rfl, by unfold numC bs; rw [hTe, if_pos h9]⟩⟩, Fr.refl _ _⟩
  · go_wp2_with fail
    refine hP.out.mono ?_
    rintro e w2 ⟨n, ev, rfl, ⟨hn, hcase⟩, hf⟩
    have h9' : ¬ 9 < (Lib.trimPrefix (bs s) [45]).length := by unfold bs; rw [hTe]; exact h9
    have Hf := Lib.hid hf
    have HE := Lib.hid (he.new hf)
    have HN := Lib.hid hn
    clear hP hT hf
    rcases hcase with ⟨hok, rfl⟩ | ⟨hno, p, rfl⟩
    · have HC := Lib.hid (numC_ok h9' hok)
      have hI := Lib.hid (FormatInt_any n hn.1 hn.2 w2 HE.out)
      clear hok h9' h9 hTe HTE
      go_wp2_with fail
      refine hI.out.mono ?_
      rintro e w3 ⟨rfl, hf3⟩
      have Hf3 := Lib.hid hf3
      clear hf3 hI
      obtain ⟨I, hI⟩ : ∃ I, tx (Lib.itoa n) = I := ⟨_, rfl⟩
      rw [hI]
      have HI := Lib.hid hI
      clear hI
      go_wp2
      go_ret2
      refine ⟨n, I.toList == s.toList, rfl, ⟨HN.out, ?_⟩, Hf.out.trans Hf3.out⟩
      rw [beq_tx, HC.out, ← HI.out, bs_tx]
      by_cases h : Lib.itoa n = bs s
      · rw [if_pos h, decide_eq_true h]; exact .inl ⟨rfl, rfl⟩
      · rw [if_neg h, decide_eq_false h]; exact .inr ⟨rfl, rfl⟩
    · have HC := Lib.hid (numC_no h9' hno)
      clear hno h9' h9 hTe HTE
      go_wp2
      go_ret2
      exact ⟨n, false, rfl, ⟨HN.out, .inr ⟨rfl, HC.out⟩⟩, Hf.out⟩
end Go.Proofs.YtidohbhcjnmmeaaDoor
