/-
  What the statements of layer 4 ask at their end: that a small log does as the document says.
-/
import Derived.Test.YtieiopeblleheaaWalNew
import Derived.RangeFuncLeaves
import Derived.Lib.SlBytesConst
import Derived.Test.YtieiopeblleheaaDisk9
namespace Go.Proofs.Ytieiopeblleheaa
set_option linter.unusedSimpArgs false
set_option linter.unusedVariables false
open Go.RowKit Go.Shelf
attribute [local go_sem] Oper.semAt_some

/-- From w on only what is new has changed. -/
def New (w W : World) : Prop := Fr (fun b => w.heap.size ≤ b) w W
theorem New.fr {w W : World} (h : New w W) : Fr Nob w W := Fr.mono h (fun i hi h => by omega)
theorem New.refl (w : World) : New w w := Fr.refl _ w
theorem New.step {w W V : World} {F : Nat → Prop} (h : New w W) (k : Fr F W V) (hF : ∀ b, F b → w.heap.size ≤ b) : New w V := Fr.step h k (fun i _ hi => hF i hi)
theorem New.new {w W V : World} (h : New w W) (k : Fr Nob W V) : New w V := h.step k (fun _ h => h.elim)

theorem bytesIn_lit (w : World) (t : List UInt8) (fz : Nat × Nat) : BytesIn (w.alloc (.cells (bts t).toArray 5 fz)) (some ⟨w.heap.size, 0, none⟩) t := fun _ =>
  ⟨_, 0, rfl, fun j x hx => by
    have hh : (w.alloc (.cells (bts t).toArray 5 fz)).heap[w.heap.size]? = some (.cells (bts t).toArray 5 fz) := by
      show (w.heap.push _)[w.heap.size]? = _
      simp
    rw [Nat.zero_add]
    unfold World.cell?
    rw [hh]
    show (bts t).toArray[j]? = _
    rw [List.getElem?_toArray, bts_get, hx]; rfl⟩
set_option maxHeartbeats 3200000 in
set_option maxRecDepth 100000 in
theorem awake4_any (w : World) : Calls Try.prog 32 #[] w fun e w' => e = .returned (.bool true) ∧ Fr Nob w w' := by
  refine (callsIn_wide (n := 6)).1 ?_
  refine callsIn_of_wp_marks Try.func32 rfl trivial ?_ rfl
  simp only [Try.ntmps32, List.size_toArray, List.length_cons, List.length_nil, Nat.reduceAdd, Nat.reduceSub, Array.replicate_succ, Array.replicate_zero, List.push_toArray, List.append_toArray, List.nil_append, List.cons_append]
  refine wpIn_wide.2 ?_
  have kc := fun (w : World) (C : Array Value) (n c : Nat) => Lib.run_convert_bytes_const (P := Try.prog) w 29 5 C n c Try.underlying29 Try.underlying5
  go_wp2_with fail
  obtain ⟨rb, hrb⟩ : ∃ rb, w.heap.size = rb := ⟨_, rfl⟩
  have HRb := Lib.hid hrb
  refine (New_ok 40 _ (by omega) (by omega)).mono ?_
  rintro e w1 ⟨d, rfl, hd, hD1, hf1⟩
  have hz1 := hf1.size
  rw [World.size_alloc] at hz1 hd
  have hb1 : Blk w1 w.heap.size 4 #[.bool false] := (Blk.new w _ _).fr hf1 (fun h => h)
  have HN1 : Hid (New w w1) := (((Fr.refl _ w).alloc _).trans (hf1.mono (fun _ _ h => h.elim)))
  rw [show (40 : Int).toNat = 40 from rfl] at hD1
  have HOp := Lib.hid (Open_new 4 32 hD1 (by omega) (by omega) (by omega))
  rw [hrb] at hb1 hd hz1 ⊢
  have HB1 := Lib.hid hb1
  clear hD1 hf1 hb1 hrb
  go_wp2_with fail
  refine HOp.out.mono ?_
  rintro e w2 ⟨p, rfl, hp, ⟨R, RD, hW, hR, hRD⟩, hf2⟩
  have hz2 := hf2.size
  have HB2 : Hid (Blk w2 rb 4 #[.bool false]) := HB1.out.fr hf2.fr (fun h => by have := h.1; rw [World.size_alloc, HRb.out] at this; omega)
  have HN2 : Hid (New w w2) := HN1.out.step hf2.fr (fun b h => by have := h.1; rw [World.size_alloc] at this; omega)
  have HW := Lib.hid hW
  have HR := Lib.hid hR
  have HN1z : Hid (w.heap.size ≤ w1.heap.size) := HN1.out.size
  clear hf2 hW hR hRD HOp HB1 HN1
  go_wp2_with fail
  have hL2 : LogOk R (w2.alloc (.cells #[.int .u8 97] 5 (1, 2))) p d (LS.empty 4 32) := HW.out.l.new ((Fr.refl _ w2).alloc _)
  have hbi : BytesIn (w2.alloc (.cells #[.int .u8 97] 5 (1, 2))) (some ⟨w2.heap.size, 0, none⟩) [97] := bytesIn_lit w2 [97] (1, 2)
  have hap := Append_good ⟨w2.heap.size, 0, none⟩ 1 [97] hL2 hbi (by simp) (by decide) (by show (1 : Int) + 16 ≤ 48 * ((32 : Nat) - 8 : Int); omega) (by show 0 < _; omega) (by show (0 : Nat) < _; omega) (by show (1 : Nat) < _; omega) (by show 48 * (((32 : Nat) : Int) - 8) ≤ _; omega)
  rw [show ([97] : List UInt8).length = 1 from rfl, show (LS.empty 4 32).next = 1 from rfl] at hap
  have HAp := Lib.hid hap
  clear hap hbi hL2
  refine HAp.out.mono ?_
  rintro e w3 ⟨rfl, hL3, hf3⟩
  have hz3 := hf3.size
  rw [World.size_alloc] at hz3
  have HB3 : Hid (Blk w3 rb 4 #[.bool false]) := (HB2.out.alloc _).fr hf3 (fun h => by have := HR.out _ h; omega)
  have HN3 : Hid (New w w3) := ((HN2.out.new ((Fr.refl _ w2).alloc _))).step hf3 (fun b h => by have := HR.out _ h; have := HN1z.out; omega)
  have HL3 : Hid (LogOk (Ext R w2 w3) w3 p d ((LS.empty 4 32).add [97])) := hL3.more (fun b h => by
    rcases h with h | h
    · exact .inl h
    · exact .inr ⟨by have := h.1; rw [World.size_alloc] at this; omega, h.2⟩) (fun b h => by
    rcases h with h | h
    · have := HW.out.l.lt h; omega
    · exact h.2)
  clear hL3 hf3 HAp
  have HAl : Hid (∀ W, LogOk (Ext R w2 w3) W p d ((LS.empty 4 32).add [97]) → Calls Try.prog 54 #[.pointer (some ⟨p, 0, none⟩)] W fun e w' => e = .returned (.func (.func 67) #[] #[.pointer (some ⟨W.heap.size, 0, none⟩)]) ∧ w' = W.alloc (.cells #[.pointer (some ⟨p, 0, none⟩)] 56)) := fun W h => All_any h
  go_wp2_with fail
  refine (HAl.out _ (HL3.out.new ((Fr.refl _ w3).alloc _))).mono ?_
  rintro e w5 ⟨rfl, hw5⟩
  have hf5 : Fr Nob w3 w5 := by rw [hw5]; exact ((Fr.refl _ w3).alloc _).alloc _
  have hk5 : Blk w5 w3.heap.size 3 #[.int .i64 0] := by rw [hw5]; exact (Blk.new w3 _ _).alloc _
  have hx5 : Blk w5 (w3.heap.size + 1) 56 #[.pointer (some ⟨p, 0, none⟩)] := by
    rw [hw5]
    have := Blk.new (w3.alloc (.cells #[.int .i64 0] 3)) 56 #[.pointer (some ⟨p, 0, none⟩)]
    rwa [World.size_alloc] at this
  have hz5 : w5.heap.size = w3.heap.size + 2 := by rw [hw5]; simp
  clear hw5
  go_wp2_with fail
  obtain ⟨kb, hkb⟩ : ∃ kb, w3.heap.size = kb := ⟨_, rfl⟩
  have hMR : ∀ b, (b = kb ∨ w5.heap.size ≤ b) → ¬ Ext R w2 w3 b ∧ b ≠ kb + 1 := by
    intro b hb
    refine ⟨fun h => ?_, by omega⟩
    have : b < w3.heap.size := HL3.out.lt h
    omega
  rw [hkb] at hk5 hx5 hz5 hz3 ⊢
  have HKb := Lib.hid hkb
  clear hkb
  have htl := All_tells 5 (B := w5.heap.size) (M := fun b => b = kb ∨ w5.heap.size ≤ b) (Nat.le_refl _) (HL3.out.new hf5) hMR hx5 (by intro x hx; simp [LS.add, LS.empty] at hx; subst hx; simp) (by show (1 : Nat) + _ < _; simp [LS.add, LS.empty]) (by simp [LS.add, LS.empty])
  have HTl := Lib.hid htl
  clear htl
  refine (wpIn_wide (n := 6)).1 ?_
  refine told_range (F := Fence.wide) rfl (by decide) (gf := 67) (lb := #[.pointer (some ⟨kb + 1, 0, none⟩)]) rfl trivial (enters_of Try.func67 (by kernel_rfl) rfl) HTl.out Fr.trans
    (fun W k o o' hk _ _ _ => (Fr.refl _ W).grown (grownBy_putObj' W k o') (fun r e => by cases e; exact .inr (.inr hk))) (Below.refl _ _) (fun _ => rfl)
    (fun pre W => Hid (Fr (fun b => b = kb ∨ w5.heap.size ≤ b) w5 W) ∧ Hid (Blk W kb 3 #[.int .i64 pre.length]))
    (fun s Wa Wb row hs hg hr => ⟨hs.1.out.grown hg (fun r e => .inl (hr r e).1), blk_grown hs.2.out hg (fun r e => (hr r e).2)⟩)
    ⟨Fr.refl _ _, hk5⟩ ?round ?done
  case round =>
    rintro l pre ⟨xi, xv, xb⟩ U hl ⟨hI1, hI2⟩ ⟨hG, hrec⟩ hlen
    have hp0 : pre = [] := List.eq_nil_of_length_eq_zero (by have : pre.length < 1 := hlen; omega)
    subst hp0
    have hx : (xi, xb) = (1, [97]) := by
      have : ((LS.empty 4 32).add [97]).recs[0]? = some (1, [97]) := rfl
      rw [List.length_nil, this] at hrec
      injection hrec with hrec
      exact hrec.symm
    injection hx with hx1 hx2
    subst hx1 hx2
    obtain ⟨g, cap, hv, _, hgl⟩ := hG.form (by simp)
    dsimp only at hv hG
    subst hv
    have HG := Lib.hid hG
    have hkl : ¬ kb = l := by omega
    clear hG hrec
    dsimp only [encR]
    gi_wp2
    refine ⟨KeepsFrom.refl _ _, Fr.refl _ _, fun r hr => ?_⟩
    have hgl2 : ¬ g = l := by
      rintro rfl
      rcases HG.out.2 with ⟨e, _⟩ | ⟨g', cap', cur, e, _, hh, _⟩
      · cases e
      · injection e with e _ _
        injection e with e
        injection e with e _
        subst e
        rw [hh] at hr
        cases hr
    have hf0 : Fr (fun b => b = l) U (U.putObj l (.loop { r with state := .busy })) := (Fr.refl _ U).grown (grownBy_putObj' U l _) (fun r e => by cases e; exact .inr rfl)
    have hcv : (convert 29 9 (.slice (some ⟨g, 0, none⟩) 1 cap)).run Try.prog (U.putObj l (.loop { r with state := .busy })) = .ok (.string ⟨#[97]⟩) (U.putObj l (.loop { r with state := .busy })) :=
      conv_in (l := [97]) ((bytesIn_own HG.out).fr hf0 (fun a ha => by injection ha with ha; subst ha; exact hgl2)) cap
    have hb0 := hI2.out.fr hf0 hkl
    have HI1 := Lib.hid (hI1.out.trans (hf0.mono (G := fun b => b = kb ∨ w5.heap.size ≤ b) (fun _ _ e => .inr (by omega))))
    obtain ⟨V0, hV0⟩ : ∃ V0, (U.putObj l (.loop { r with state := .busy })) = V0 := ⟨_, rfl⟩
    rw [hV0] at hcv hb0 HI1 ⊢
    have c0 := hb0.cell 0
    have f0 := hb0.frozen 0
    have hkV := hb0.lt
    simp only [List.getElem?_toArray, List.getElem?_cons_zero, List.length_nil] at c0
    have HB0 := Lib.hid hb0
    clear hb0 hr hf0 hV0 hI1 hI2
    gi_wp2
    have hfV : Fr (fun b => b = kb ∨ w5.heap.size ≤ b) V0 (V0.setCell ⟨kb, 0, none⟩ (.int .i64 1)) := (Fr.refl _ V0).setCell (p := ⟨kb, 0, none⟩) (.inr (.inl rfl)) _
    exact ⟨(KeepsOthers.setCell _ _ _).from _, hfV, HI1.out.trans hfV, HB0.out.set_ 0 _⟩
  case done =>
    rintro D xs W hD hS ⟨hI1, hI2⟩ hK
    have hlen : xs.length = 1 := by
      have := congrArg List.length hS
      rw [List.length_map, LS.recs_length] at this
      exact this
    rw [hlen] at hI2
    have hLW := HL3.out.new hf5
    have hLW := hLW.fr hI1.out (fun b hb hm => (hMR b hm).1 hb)
    have hbW := (HB3.out.fr hf5 (fun h => h)).fr hI1.out (fun h => by have := HB3.out.lt; rw [HKb.out] at this; omega)
    have k0 : W.cell? ⟨kb, 0, none⟩ = some (.int .i64 1) := hI2.out.cell 0
    have hkW := hI2.out.lt
    have r0 : W.cell? ⟨rb, 0, none⟩ = some (.bool false) := hbW.cell 0
    have q0 := hbW.frozen 0
    have hrW := hbW.lt
    have HF := Lib.hid (First_any hLW)
    have HNx := Lib.hid (Next_any hLW)
    have HSz := Lib.hid (Size_any hLW)
    have HBW := Lib.hid hbW
    have HNW : Hid (New w W) := ((HN3.out.new hf5).step hI1.out (fun b h => by have := HN3.out.size; have := HKb.out; omega))
    have HK := Lib.hid hK
    have hrk : ¬ kb = rb := by rintro rfl; have := HB3.out.lt; omega
    rw [show ((LS.empty 4 32).add [97]).first = 1 from rfl] at HF
    rw [show ((LS.empty 4 32).add [97]).next = 2 from rfl] at HNx
    rw [show 48 * ((((LS.empty 4 32).add [97]).n : Int) - 8) = 1152 from rfl] at HSz
    clear hS hI1 hI2 hK hLW hbW hlen HTl
    go_wp2_with (first | (go_at_call 35; refine HF.out.mono ?_; rintro e w' ⟨rfl, rfl⟩) | (go_at_call 36; refine HNx.out.mono ?_; rintro e w' ⟨rfl, rfl⟩) | (go_at_call 33; refine HSz.out.mono ?_; rintro e w' ⟨rfl, rfl⟩))
    have hDr : ¬ D = rb := by rintro rfl; have := HB3.out.lt; omega
    have hK4 : (W.setCell ⟨rb, 0, none⟩ (.bool true)).heap[D]? = some (.deferred (some [])) := by
      rw [Below.heap_setCell _ _ _ _ hDr]; exact HK.out
    have hg5 := grownBy_putObj' (W.setCell ⟨rb, 0, none⟩ (.bool true)) D (.deferred none)
    have hb5 := (HBW.out.set_ 0 (.bool true)).grown hg5 (fun e => by injection e with e; exact hDr e.symm)
    have hN5 : New w ((W.setCell ⟨rb, 0, none⟩ (.bool true)).putObj D (.deferred none)) :=
      Fr.grown (Fr.setCell HNW.out (p := ⟨rb, 0, none⟩) (.inl (by show _ ≤ rb; have := HRb.out; omega)) _) hg5 (fun k e => by cases e; exact .inl (by have := HN3.out.size; have := HKb.out; omega))
    have cr := hb5.cell 0
    have hr5 := hb5.lt
    simp only [Array.getElem?_setIfInBounds, List.setIfInBounds_toArray, List.set_cons_zero, List.getElem?_toArray, List.getElem?_cons_zero] at cr
    refine ⟨by simp, .inl ⟨_, _, rfl, run_takeDeferred hK4, ?_⟩⟩
    exact ⟨.bool true, by simp [results, Try.results32, go_sem, cr], rfl, hN5.fr⟩
end Go.Proofs.Ytieiopeblleheaa
