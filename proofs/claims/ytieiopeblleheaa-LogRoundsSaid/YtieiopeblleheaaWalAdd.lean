/-
  add: a record behind the others.
-/
import Derived.Test.YtieiopeblleheaaWalRep
import Derived.Test.YtieiopeblleheaaReg
namespace Go.Proofs.Ytieiopeblleheaa
set_option linter.unusedSimpArgs false
set_option linter.unusedVariables false
open Go.RowKit
theorem info_record : (Try.prog.info? 99).map (fun i => (i.zero, i.size, i.bytes)) = some (some (.agg #[.slice none 0 0, .int .u64 0]), 2, 32) := by kernel_rfl
def LS.add (L : LS) (b : List UInt8) : LS := { L with l := L.l ++ [(b, L.fin)], fin := L.fin + (16 + b.length), room := L.room - (16 + b.length), next := L.next + 1 }
section
variable {R : Nat → Prop} {w : World} {p d : Nat} {L : LS}
/-- What add leaves. -/
theorem add_shape {lv : Value} {rv : List (Value × Nat)} {A : Option Addr} {c g7 o7 cap7 : Nat} {b : List UInt8} {w7 : World} (h : LogAt R w p d lv rv L) (hA : A ≠ none) (hv : RecIn R w (.slice A b.length c) b)
    (ho : OwnF w7 99 2 (.slice (some ⟨g7, o7, none⟩) (L.l.length + 1) cap7) (L.l.length + 1) (recCells rv ++ [.slice A b.length c, .int .u64 L.fin]))
    (hg : (w.drew.alloc (.cells #[.slice A b.length c, .int .u64 L.fin] 99)).grownBy w7 lv.ownBlock)
    (hat : (Value.slice (some ⟨g7, o7, none⟩) (L.l.length + 1) cap7).ownBlock = lv.ownBlock ∨ ∀ g, (Value.slice (some ⟨g7, o7, none⟩) (L.l.length + 1) cap7).ownBlock = some g → (w.drew.alloc (.cells #[.slice A b.length c, .int .u64 L.fin] 99)).heap.size ≤ g)
    (hfin : L.fin + (16 + b.length) < 18446744073709551616) (hnext : L.next + 1 < 18446744073709551616)
    (w8 : World) (hw8 : w8 = w7.setCell ⟨p, 6, none⟩ (.slice (some ⟨g7, o7, none⟩) (L.l.length + 1) cap7))
    (hb8 : Blk w8 p 92 ((#[.pointer (some ⟨d, 0, none⟩), .int .i64 L.start, .int .i64 L.n, .int .u64 L.first, .int .u64 L.next, .int .u64 L.flushed, lv, .int .u64 L.fin, .int .u64 L.kept, .int .u64 L.life, .int .u64 L.turn, .int .i64 L.room] : Array Value).setIfInBounds 6 (.slice (some ⟨g7, o7, none⟩) (L.l.length + 1) cap7)))
    (W : World) (hW : W = (((w8.setCell ⟨p, 7, none⟩ (.int .u64 ((L.fin : Int) + (16 + (b.length : Int))))).setCell ⟨p, 11, none⟩ (.int .i64 (L.room - (16 + (b.length : Int))))).setCell ⟨p, 4, none⟩ (.int .u64 ((L.next : Int) + 1)))) :
    LogOk (Ext R w W) W p d (L.add b) ∧ Fr R w W := by
  have f7 : Fr (fun k => k = p ∨ some k = lv.ownBlock) w w7 := (((Fr.refl _ w).drew.alloc _).grown hg (fun k hk => .inr (.inr hk.symm)))
  have f8 : Fr (fun k => k = p ∨ some k = lv.ownBlock) w w8 := by rw [hw8]; exact f7.setCell (p := ⟨p, 6, none⟩) (.inr (.inl rfl)) _
  have fW : Fr (fun k => k = p ∨ some k = lv.ownBlock) w W := by
    rw [hW]
    exact ((f8.setCell (p := ⟨p, 7, none⟩) (.inr (.inl rfl)) _).setCell (p := ⟨p, 11, none⟩) (.inr (.inl rfl)) _).setCell (p := ⟨p, 4, none⟩) (.inr (.inl rfl)) _
  have hbW := ((hb8.set_ 7 (.int .u64 ((L.fin : Int) + (16 + (b.length : Int))))).set_ 11 (.int .i64 (L.room - (16 + (b.length : Int))))).set_ 4 (.int .u64 ((L.next : Int) + 1))
  rw [← hW] at hbW
  have hb7 := ((h.blk.drew).alloc (.cells #[.slice A b.length c, .int .u64 L.fin] 99)).grown hg (Blk.ownF_ne h.blk h.own (by decide))
  have far : ∀ x, (x = p ∨ some x = lv.ownBlock) → x < w.heap.size → ∃ t cs, Blk w x t cs ∧ t ≠ 5 := by
    rintro x (rfl | hx) _
    · exact ⟨_, _, h.blk, by decide⟩
    · obtain ⟨cs, hcs⟩ := h.own.blk hx.symm
      exact ⟨_, _, hcs, by decide⟩
  have hszW : w7.heap.size = W.heap.size := by rw [hW, hw8]; simp [World.setCell]
  have hz7 : w.heap.size + 1 ≤ w7.heap.size := by have := hg.size; simpa using this
  have ext : ∀ x, R x → Ext R w W x := fun x hx => .inl hx
  refine ⟨⟨.slice (some ⟨g7, o7, none⟩) (L.l.length + 1) cap7, rv ++ [(.slice A b.length c, L.fin)], ?_⟩, fW.mono (fun x _ hx => by
    rcases hx with rfl | hx
    · exact h.rp
    · exact h.rl x hx.symm)⟩
  exact {
    blk := by
      have e1 : ((L.fin : Int) + (16 + (b.length : Int))) = ((L.fin + (16 + b.length) : Nat) : Int) := by omega
      have e2 : ((L.next : Int) + 1) = ((L.next + 1 : Nat) : Int) := by omega
      rw [e1, e2] at hbW
      exact hbW
    own := by
      rw [recCells_snoc]
      show OwnF W 99 2 _ (L.l ++ [(b, L.fin)]).length _
      rw [List.length_append]
      have o8 := OwnF.set_ (i := 6) (u := .slice (some ⟨g7, o7, none⟩) (L.l.length + 1) cap7) ho hb7 (by decide)
      rw [← hw8] at o8
      rw [hW]
      exact ((o8.set_ hb8 (by decide)).set_ (hb8.set_ 7 _) (by decide)).set_ ((hb8.set_ 7 _).set_ 11 _) (by decide)
    recs := by
      refine ⟨by simp [LS.add, h.recs.1], fun i x y hx hy => ?_⟩
      simp only [LS.add] at hy
      rw [List.getElem?_append] at hx hy
      rw [h.recs.1] at hx
      by_cases hi : i < L.l.length
      · rw [if_pos hi] at hx hy
        obtain ⟨e1, e2, e3⟩ := h.recs.2 i x y hx hy
        exact ⟨e1, e2, (e3.far fW far).more ext⟩
      · rw [if_neg hi] at hx hy
        have : i - L.l.length = 0 := by
          have := (List.getElem?_eq_some_iff.1 hx).1
          simp at this
          omega
        rw [this] at hx hy
        simp at hx hy
        subst hx hy
        exact ⟨rfl, h.b4, (hv.far fW far).more ext⟩
    nn := fun x hx => by
      rcases List.mem_append.1 hx with hx | hx
      · exact h.nn x hx
      · rw [List.mem_singleton] at hx
        subst hx
        intro e
        injection e with e
        exact hA e
    rp := .inl h.rp
    rl := fun x hx => by
      rcases hat with e | e
      · exact .inl (h.rl x (by rw [← e]; exact hx))
      · have h1 := e x hx
        have hl := ho.lt hx
        simp at h1
        exact .inr ⟨by omega, by omega⟩
    lt := fun x hx => by
      rcases hx with hx | hx
      · have := h.lt x hx; have := fW.size; omega
      · exact hx.2
    n0 := h.n0
    n1 := h.n1
    s1 := h.s1
    b1 := h.b1
    b2 := hnext
    b3 := h.b3
    b4 := hfin
    b5 := h.b5
    b6 := h.b6
    b7 := h.b7 }
end
section
variable {R : Nat → Prop} {w : World} {p d : Nat} {L : LS}
set_option maxHeartbeats 1600000 in
set_option maxRecDepth 100000 in
theorem add_any (A : Option Addr) (c : Nat) (b : List UInt8) (h : LogOk R w p d L) (hA : A ≠ none) (hv : RecIn R w (.slice A b.length c) b) (hll : L.l.length < 4000000000) (hfin : L.fin + (16 + b.length) < 18446744073709551616) (hnext : L.next + 1 < 18446744073709551616)
    (hbl : b.length ≤ 3000000000) (hr0 : -4611686018427387904 ≤ L.room) (hr1 : L.room ≤ 4611686018427387904) :
    Calls Try.prog 55 #[.pointer (some ⟨p, 0, none⟩), .slice A b.length c] w fun e w' => e = .returned (.tuple #[]) ∧ LogOk (Ext R w w') w' p d (L.add b) ∧ Fr R w w' := by
  obtain ⟨i0, hi0, hz0, hz1, hz2⟩ := info_parts info_record
  obtain ⟨lv, rv, h⟩ := h
  have hp := h.blk.lt
  have H := Lib.hid h
  have HV := Lib.hid hv
  clear h hv
  have hownW : Hid (OwnF (w.drew.alloc (.cells #[.slice A b.length c, .int .u64 L.fin] 99)) 99 2 lv L.l.length (recCells rv)) := (H.out.own.fr (Fr.refl Nob w).drew (fun _ _ h => h)).alloc _
  have c2 : Hid (∀ j u, [Value.slice A b.length c, .int .u64 L.fin][j]? = some u → (w.drew.alloc (.cells #[.slice A b.length c, .int .u64 L.fin] 99)).cell? ((⟨w.drew.heap.size, 0, none⟩ : Addr).add j) = some u) := by
    intro j u hu
    exact World.news_of_block (Blk.new w.drew 99 #[.slice A b.length c, .int .u64 L.fin]) j u (by simpa using hu)
  obtain ⟨v', w7, hrun7, hown7, hg7, hat7⟩ := run_appendF (P := Try.prog) (w.drew.alloc (.cells #[.slice A b.length c, .int .u64 L.fin] 99)) 90 90 99 i0 (.agg #[.slice none 0 0, .int .u64 0]) 2 32 Try.underlying90 hi0 hz0 hz1 hz2 rfl (by decide) lv L.l.length (recCells rv) hownW.out ⟨w.drew.heap.size, 0, none⟩ 1 1 [.slice A b.length c, .int .u64 L.fin] (by omega) rfl c2.out (by simp [Value.oneCell']) (by unfold maxLen; omega) (by omega)
  obtain ⟨g7, o7, cap7, hv7, hg7l, _, _⟩ := hown7.form (by omega)
  subst hv7
  have HR7 := Lib.hid hrun7
  have HO7 := Lib.hid hown7
  have HG7 := Lib.hid hg7
  have HA7 := Lib.hid hat7
  have HF7 : Hid (Fr (fun k => some k = lv.ownBlock) w.drew w7) := ((Fr.refl _ w.drew).alloc _).grown hg7 (fun k hk => .inr hk.symm)
  clear hrun7 hown7 hg7 hat7
  have HB7 : Hid (Blk w7 p 92 _) := ((H.out.blk.drew).alloc (.cells #[.slice A b.length c, .int .u64 L.fin] 99)).grown HG7.out (Blk.ownF_ne H.out.blk H.out.own (by decide))
  have HC : Hid (∀ W, Fr (fun k => some k = lv.ownBlock) w.drew W → W.cell? ⟨p, 6, none⟩ = some lv ∧ W.cell? ⟨p, 7, none⟩ = some (.int .u64 L.fin) ∧ p < W.heap.size) := by
    intro W hW
    have hb := H.out.blk.drew.fr hW (Blk.ownF_ne H.out.blk H.out.own (by decide))
    exact ⟨hb.cell 6, hb.cell 7, hb.lt⟩
  go_enter Try.func55, Try.ntmps55
  go_wp2
  have hS : Fr (fun k => some k = lv.ownBlock) w.drew w.drew := Fr.refl _ _
  refine Rg.begin (Fr (fun k => some k = lv.ownBlock) w.drew) [15] (by kernel_rfl) ?_
  refine Rg.op 0 (some 4) hS (v := ?v0) (a' := ?a0) (hy := fun wz hwz => ?h0) (ha := ?b0) (h := ?_)
  case h0 => (go_simp; try with_reducible rfl)
  case b0 => (simp only [Act.put, List.setIfInBounds_toArray, List.set_cons_zero, List.set_cons_succ]; rfl)
  refine Rg.op 1 (some 5) hS (v := ?v1) (a' := ?a1) (hy := fun wz hwz => ?h1) (ha := ?b1) (h := ?_)
  case h1 => (go_simp; try with_reducible rfl)
  case b1 => (simp only [Act.put, List.setIfInBounds_toArray, List.set_cons_zero, List.set_cons_succ]; rfl)
  refine Rg.op 2 (some 6) hS (v := ?v2) (a' := ?a2) (hy := fun wz hwz => ?h2) (ha := ?b2) (h := ?_)
  case h2 => (have hb := (HC.out _ hwz); have c6 := hb.1; have c7 := hb.2.1; have hpz := hb.2.2; clear hb; go_simp; try with_reducible rfl)
  case b2 => (simp only [Act.put, List.setIfInBounds_toArray, List.set_cons_zero, List.set_cons_succ]; rfl)
  refine Rg.op 3 (some 7) hS (v := ?v3) (a' := ?a3) (hy := fun wz hwz => ?h3) (ha := ?b3) (h := ?_)
  case h3 => (go_simp; try with_reducible rfl)
  case b3 => (simp only [Act.put, List.setIfInBounds_toArray, List.set_cons_zero, List.set_cons_succ]; rfl)
  refine Rg.op 4 (some 8) hS (v := ?v4) (a' := ?a4) (hy := fun wz hwz => ?h4) (ha := ?b4) (h := ?_)
  case h4 => (have hb := (HC.out _ hwz); have c6 := hb.1; have c7 := hb.2.1; have hpz := hb.2.2; clear hb; go_simp; try with_reducible rfl)
  case b4 => (simp only [Act.put, List.setIfInBounds_toArray, List.set_cons_zero, List.set_cons_succ]; rfl)
  refine Rg.op 5 (some 9) hS (v := ?v5) (a' := ?a5) (hy := fun wz hwz => ?h5) (ha := ?b5) (h := ?_)
  case h5 => (go_simp; try with_reducible rfl)
  case b5 => (simp only [Act.put, List.setIfInBounds_toArray, List.set_cons_zero, List.set_cons_succ]; rfl)
  refine Rg.op 6 (some 10) hS (v := ?v6) (a' := ?a6) (hy := fun wz hwz => ?h6) (ha := ?b6) (h := ?_)
  case h6 => (go_simp; try with_reducible rfl)
  case b6 => (simp only [Act.put, List.setIfInBounds_toArray, List.set_cons_zero, List.set_cons_succ]; rfl)
  refine Rg.op 7 (some 11) hS (v := ?v7) (a' := ?a7) (hy := fun wz hwz => ?h7) (ha := ?b7) (h := ?_)
  case h7 => (have hb := (HC.out _ hwz); have c6 := hb.1; have c7 := hb.2.1; have hpz := hb.2.2; clear hb; go_simp; try with_reducible rfl)
  case b7 => (simp only [Act.put, List.setIfInBounds_toArray, List.set_cons_zero, List.set_cons_succ]; rfl)
  refine Rg.op 8 (some 12) hS (v := ?v8) (a' := ?a8) (hy := fun wz hwz => ?h8) (ha := ?b8) (h := ?_)
  case h8 => (go_simp; try with_reducible rfl)
  case b8 => (simp only [Act.put, List.setIfInBounds_toArray, List.set_cons_zero, List.set_cons_succ]; rfl)
  refine Rg.op 9 (some 13) hS (v := ?v9) (a' := ?a9) (hy := fun wz hwz => ?h9) (ha := ?b9) (h := ?_)
  case h9 => (have hb := (HC.out _ hwz); have c6 := hb.1; have c7 := hb.2.1; have hpz := hb.2.2; clear hb; go_simp; try with_reducible rfl)
  case b9 => (simp only [Act.put, List.setIfInBounds_toArray, List.set_cons_zero, List.set_cons_succ]; rfl)
  refine Rg.op 10 (some 14) hS (v := ?v10) (a' := ?a10) (hy := fun wz hwz => ?h10) (ha := ?b10) (h := ?_)
  case h10 => (go_simp; try with_reducible rfl)
  case b10 => (simp only [Act.put, List.setIfInBounds_toArray, List.set_cons_zero, List.set_cons_succ]; rfl)
  have hSa : Fr (fun k => some k = lv.ownBlock) w.drew (w.drew.alloc (.cells #[.slice A b.length c, .int .u64 L.fin] 99)) := (Fr.refl _ _).alloc _
  refine Rg.run 11 (some 15) (v := (.slice (some ⟨w.drew.heap.size, 0, none⟩) 1 1)) (a' := ?a11) (w' := ((w.drew.alloc (.cells #[.slice A b.length c, .int .u64 L.fin] 99)))) (hrun := ?h11) (ha := ?b11) (hS := (fun _ => hSa)) (h := ?_)
  case h11 => (go_simp; try with_reducible rfl)
  case b11 => (simp only [Act.put, List.setIfInBounds_toArray, List.set_cons_zero, List.set_cons_succ]; rfl)
  refine Rg.run 12 (some 16) (v := (.slice (some ⟨g7, o7, none⟩) (L.l.length + 1) cap7)) (a' := ?a12) (w' := (w7)) (hrun := ?h12) (ha := ?b12) (hS := (fun _ => HF7.out)) (h := ?_)
  case h12 => exact run_opAppend (.tmp 8) (.tmp 15) 90 90 lv (.slice (some ⟨w.drew.heap.size, 0, none⟩) 1 1) rfl rfl rfl rfl HR7.out
  case b12 => (simp only [Act.put, List.setIfInBounds_toArray, List.set_cons_zero, List.set_cons_succ]; rfl)
  refine Rg.run 13 (some 17) (v := ?v13) (a' := ?a13) (w' := (w7)) (hrun := ?h13) (ha := ?b13) (hS := (fun _ => HF7.out)) (h := ?_)
  case h13 => (have hpb := HB7.out.lt; go_simp; try with_reducible rfl)
  case b13 => (simp only [Act.put, List.setIfInBounds_toArray, List.set_cons_zero, List.set_cons_succ]; rfl)
  refine Rg.op 14 (some 18) HF7.out (v := ?v14) (a' := ?a14) (hy := fun wz hwz => ?h14) (ha := ?b14) (h := ?_)
  case h14 => (go_simp; try with_reducible rfl)
  case b14 => (simp only [Act.put, List.setIfInBounds_toArray, List.set_cons_zero, List.set_cons_succ]; rfl)
  have hpb := HB7.out.lt
  have b6 := HB7.out.cell 6
  have q6 := HB7.out.frozen 6
  simp only [List.getElem?_toArray, List.getElem?_cons_zero, List.getElem?_cons_succ] at b6
  refine Rg.store 15 (w' := ?w15) (hrun := ?h15) (hS := (fun h => absurd (by decide) h)) (h := ?_)
  case h15 => (go_simp; try with_reducible rfl)
  refine Rg.done _ (h := ?_)
  have hb8 := HB7.out.set_ 6 (.slice (some ⟨g7, o7, none⟩) (L.l.length + 1) cap7)
  have hlog8 := Lib.hid hb8
  have d4 : (w7.setCell ⟨p, 6, none⟩ (.slice (some ⟨g7, o7, none⟩) (L.l.length + 1) cap7)).cell? ⟨p, 4, none⟩ = some (.int .u64 L.next) := hb8.cell 4
  have d7 : (w7.setCell ⟨p, 6, none⟩ (.slice (some ⟨g7, o7, none⟩) (L.l.length + 1) cap7)).cell? ⟨p, 7, none⟩ = some (.int .u64 L.fin) := hb8.cell 7
  have d11 : (w7.setCell ⟨p, 6, none⟩ (.slice (some ⟨g7, o7, none⟩) (L.l.length + 1) cap7)).cell? ⟨p, 11, none⟩ = some (.int .i64 L.room) := hb8.cell 11
  have f4 := hb8.frozen 4
  have f7 := hb8.frozen 7
  have f11 := hb8.frozen 11
  have hp8 := hb8.lt
  clear hb8
  generalize hW : (w7.setCell ⟨p, 6, none⟩ (.slice (some ⟨g7, o7, none⟩) (L.l.length + 1) cap7)) = w8 at *
  have HW := Lib.hid hW
  clear hW
  go_wp2
  go_end0
  exact ⟨rfl, add_shape H.out hA HV.out HO7.out HG7.out HA7.out hfin hnext w8 HW.out.symm hlog8.out _ rfl⟩
end
end Go.Proofs.Ytieiopeblleheaa
