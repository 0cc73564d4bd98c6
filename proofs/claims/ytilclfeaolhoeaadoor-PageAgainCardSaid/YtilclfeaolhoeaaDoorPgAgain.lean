/-
  PageAgain walked.
-/
import Derived.Test.YtilclfeaolhoeaaDoorPgAgSt
import Derived.Deep.DeepCutAuto
namespace Go.Proofs.YtilclfeaolhoeaaDoor
set_option linter.unusedSimpArgs false
set_option linter.unusedVariables false
open Go.RowKit

/-- The cells of a slice of Raws. -/
def RawsIn (w : World) (A : Option Addr) (rs : List (Int × Int)) : Prop := 0 < rs.length → ∃ g o, A = some ⟨g, o, none⟩ ∧ ∀ j x, rs[j]? = some x → w.cell? ⟨g, o + j * 2, none⟩ = some (.int .i64 x.1) ∧ w.cell? ⟨g, o + j * 2 + 1, none⟩ = some (.int .i64 x.2)
theorem RawsIn.new {w w' : World} {A : Option Addr} {rs : List (Int × Int)} (h : RawsIn w A rs) (hf : Fr Nob w w') : RawsIn w' A rs := fun h0 => by
  obtain ⟨g, o, rfl, hc⟩ := h h0
  refine ⟨g, o, rfl, fun j x hx => ?_⟩
  obtain ⟨c0, c1⟩ := hc j x hx
  have hl : g < w.heap.size := cell_lt c0
  exact ⟨(hf.cell (p := ⟨g, o + j * 2, none⟩) hl (fun h => h)).trans c0, (hf.cell (p := ⟨g, o + j * 2 + 1, none⟩) hl (fun h => h)).trans c1⟩
theorem i64_and7 (n : Int) : bits .and .i64 n 7 = n % 8 := by
  have := i64_mask n 7 3 (by decide) (by decide) (by decide)
  simpa using this
theorem len_raws (w : World) (A : Option Addr) (n c : Nat) : (Builtin.len_ #[22] 3 #[Value.slice A n c]).run Tryd.prog w = .ok (.int .i64 n) w := by go_simp

set_option maxHeartbeats 12800000 in
set_option maxRecDepth 100000 in
theorem PageAgain_row (A0 : Option Addr) (c0 : Nat) (rs : List (Int × Int)) (at_ : Int) (w : World) (hr : RawsIn w A0 rs) (hlen : rs.length ≤ 4000000000000 * 4) (_ : -9223372036854775808 ≤ at_) (_ : at_ ≤ 9223372036854775807) :
    Calls Tryd.prog 3 #[.slice A0 rs.length c0, .int .i64 at_] w fun e w' => e = .returned (.bool true) ∧ Fr Nob w w' := by
  have qP := len_Pg
  have qR := len_raws
  have hat := i64_and7 at_
  obtain ⟨ec, hec⟩ : ∃ m : Nat, at_ % 8 = (m : Int) := ⟨(at_ % 8).toNat, by omega⟩
  have hec8 : ec < 8 := by omega
  rw [hec] at hat
  have HRw := Lib.hid hr
  have HNd : Hid (∀ W, Calls Tryd.prog 6 #[.int .i64 8] W fun e w' => e = .returned (.int .i64 144) ∧ W = w') := fun W => Need_any 8 W (by omega) (by omega)
  have HNw : Hid (∀ W, Calls Tryd.prog 5 #[.int .i64 144] W fun e w' => ∃ d R S, e = .returned (.tuple #[.pointer (some ⟨d, 0, none⟩), .int .i64 0]) ∧ W.heap.size ≤ d ∧ (∀ b, R b → W.heap.size ≤ b) ∧ DiskOk R w' d S ∧ Still S ∧ PSt S.now 0 8 0 [] (fun _ => none) ∧ Fr Nob W w') := fun W => New_still 144 W (by omega) (by omega) 8 (by omega)
  obtain ⟨rn, hrn⟩ : ∃ n, rs.length = n := ⟨_, rfl⟩
  have HRn := Lib.hid hrn
  rw [hrn] at hlen ⊢
  have HAr0 : Hid (arrOf [0, 0, 0, 0, 0, 0, 0, 0] = #[.int .i64 0, .int .i64 0, .int .i64 0, .int .i64 0, .int .i64 0, .int .i64 0, .int .i64 0, .int .i64 0]) := rfl
  clear hr hec hrn
  go_enter Tryd.func3, Tryd.ntmps3
  go_wp2_with fail
  refine (HNd.out w).mono ?_
  rintro e wz ⟨rfl, rfl⟩
  go_wp2_with fail
  refine (HNw.out w).mono ?_
  rintro e w1 ⟨d, R1, S1, rfl, hdw, hR1, hd1, hst1, hps1, hf1⟩
  have HOp := Lib.hid (opened_pst (at0 := 0) (pages := 8) hd1 hst1 (by omega) (by omega) (by omega) hps1)
  have HR1 := Lib.hid hR1
  have HF1 := Lib.hid hf1
  clear hd1 hst1 hps1 hR1 hf1 HNw
  go_wp2_with fail
  refine HOp.out.mono ?_
  rintro e w2 ⟨p, R2, S2, rfl, hp1, hp2, hfa2, hd2, hst2, hps2, hnp, hsub, hf2⟩
  have hF2 : Fr Nob w w2 := HF1.out.step hf2.fr (fun i hi h => by have := HR1.out i h; omega)
  have hR2 : ∀ b, R2 b → w.heap.size ≤ b := fun b hb => by
    rcases hsub b hb with h | h
    · exact HR1.out b h
    · have := HF1.out.size; omega
  have hR2l : ∀ b, R2 b → b < w2.heap.size := fun b hb => hd2.lt hb
  have hpw : w.heap.size ≤ p := by have := HF1.out.size; omega
  have hA3 : AgSt w (w2.alloc (.cells #[.int .i64 0, .int .i64 0, .int .i64 0, .int .i64 0, .int .i64 0, .int .i64 0, .int .i64 0, .int .i64 0] 30)) 30 d w2.heap.size p 0 (w2.heap.size + 1) R2 S2 [] (fun _ => none) (.slice none 0 0) [] [] [0, 0, 0, 0, 0, 0, 0, 0] := {
    fr0 := hF2.alloc _
    fa := hfa2.alloc _
    dk := hd2.new ((Fr.refl _ _).alloc _)
    st := hst2
    ps := hps2
    rp := hnp
    r0 := fun b hb => ⟨hR2 b hb, by have := hR2l b hb; omega⟩
    p0 := ⟨hpw, by omega⟩
    g0 := ⟨hF2.size, by omega⟩
    gp := by omega
    gr := fun h => by have := hR2l _ h; omega
    b0 := by rw [World.size_alloc]; omega
    row := ⟨World.ownsRow_nil _ _ _ _, rfl, fun x hx => by simp at hx⟩
    arr := by rw [HAr0.out]; exact Blk.new _ _ _
    nsl := rfl
    ok := fun x hx => by simp at hx
    dis := fun i j x y hx => by simp at hx
    cv := fun no n hn => by
      left
      refine ⟨rfl, ?_⟩
      have := List.mem_of_getElem? hn
      simp at this
      exact this
    small := fun no n hn => by
      have := List.mem_of_getElem? hn
      simp at this
      omega }
  have HA3 := Lib.hid hA3
  obtain ⟨gn, hgn⟩ : ∃ g, w2.heap.size = g := ⟨_, rfl⟩
  rw [hgn] at HA3
  clear hfa2 hd2 hst2 hps2 hsub hf2 HOp HR1 HF1 hp1 hF2 hR2 hR2l hpw hA3 hnp hp2 hdw
  have hec1 : IntKind.i64.wrap ((ec : Int) + 1) = ((ec + 1 : Nat) : Int) := by rw [IntKind.wrap_i64]; omega
  go_wp2_with fail
  try rw [hgn]
  clear hgn
  go_loopw [7, 10, 11, 12, 13, 14] (fun s7 s10 s11 _ _ _ wr => ∃ (i T B0 p : Nat) (R : Nat → Prop) (S : DS) (lot : List PgV) (cur : Nat → Option PgV) (l : List PgV) (xs : List (PgV × Value)) (ns : List Nat), i ≤ rn ∧ i ≤ 24 ∧ T ≤ i ∧ l.length < ec + 1 ∧ s7 = .pointer (some ⟨p, 0, none⟩) ∧ s11 = .int .i64 i ∧ Hid (AgSt w wr 30 d gn p T B0 R S lot cur s10 l xs ns)) (fun _ _ s11 _ _ _ _ => 24 - (intOf s11).toNat)
  case atStart => exact ⟨0, 0, _, p, _, _, _, _, [], [], _, by omega, by omega, by omega, by simp, rfl, rfl, HA3.out⟩
  case round =>
    clear HA3
    obtain ⟨i, T, B0, p, R, S, lot, cur, l, xs, ns, hi, hi24, hTi, hle', rfl, rfl, hA⟩ := hrel
    have HA := Lib.hid hA.out
    have HXl := Lib.hid HA.out.len
    have hle : xs.length < ec + 1 := by have := HXl.out; omega
    clear hle'
    obtain ⟨A, c, hv, hpg⟩ := HA.out.row.pgs
    have HPg := Lib.hid hpg
    subst hv
    clear hA hpg
    by_cases hc : i < rn ∧ i < 24
    · obtain ⟨hlt, hlt24⟩ := hc
      have hltI : (i : Int) < (rn : Int) := by omega
      have hlt24I : (i : Int) < 24 := by omega
      obtain ⟨⟨ra, rb⟩, hx⟩ : ∃ x, rs[i]? = some x := ⟨_, List.getElem?_eq_getElem (by rw [HRn.out]; exact hlt)⟩
      have hraw := HRw.out.new HA.out.fr0 (by rw [HRn.out]; omega)
      obtain ⟨g, o, rfl, hcs⟩ := hraw
      obtain ⟨k0, k1⟩ := hcs i _ hx
      dsimp only at k0 k1
      have hgl : g < wr.heap.size := cell_lt k0
      have K0 := Lib.hid k0
      have K1 := Lib.hid k1
      have j0 := i64_and7 ra
      have j1 := i64_and65535 rb
      obtain ⟨nn, hnn⟩ : ∃ m : Nat, ra % 8 = (m : Int) := ⟨(ra % 8).toNat, by omega⟩
      obtain ⟨m, hm⟩ : ∃ m : Nat, rb % 65536 = (m : Int) := ⟨(rb % 65536).toNat, by omega⟩
      have hn8 : nn < 8 := by omega
      have hm6 : m ≤ 65535 := by omega
      rw [hnn] at j0
      rw [hm] at j1
      clear hcs hx k0 k1 hnn hm
      go_wp2
      have hS : Fr Nob wr wr.drew := (Fr.refl _ wr).drew
      refine Rg.begin' (Fr Nob wr) [] (by kernel_rfl) ?_
      refine Rg.op 0 (some 44) hS (v := ?v0q) (a' := ?a0q) (hy := fun wz hwz => ?h0q) (ha := ?b0q) (h := ?_)
      case h0q => (go_simp; try with_reducible rfl)
      case b0q => (simp only [Act.put, List.setIfInBounds_toArray, List.set_cons_zero, List.set_cons_succ]; rfl)
      refine Rg.op 1 (some 45) hS (v := ?v1q) (a' := ?a1q) (hy := fun wz hwz => ?h1q) (ha := ?b1q) (h := ?_)
      case h1q => (go_simp; try with_reducible rfl)
      case b1q => (simp only [Act.put, List.setIfInBounds_toArray, List.set_cons_zero, List.set_cons_succ]; rfl)
      refine Rg.op 2 (some 46) hS (v := ?v2q) (a' := ?a2q) (hy := fun wz hwz => ?h2q) (ha := ?b2q) (h := ?_)
      case h2q => (go_simp; try with_reducible rfl)
      case b2q => (simp only [Act.put, List.setIfInBounds_toArray, List.set_cons_zero, List.set_cons_succ]; rfl)
      refine Rg.op 3 (some 47) hS (v := ?v3q) (a' := ?a3q) (hy := fun wz hwz => ?h3q) (ha := ?b3q) (h := ?_)
      case h3q => (go_simp; try with_reducible rfl)
      case b3q => (simp only [Act.put, List.setIfInBounds_toArray, List.set_cons_zero, List.set_cons_succ]; rfl)
      refine Rg.op 4 (some 48) hS (v := ?v4q) (a' := ?a4q) (hy := fun wz hwz => ?h4q) (ha := ?b4q) (h := ?_)
      case h4q => (have cc := (hwz.cell (p := ⟨g, o + i * 2, none⟩) hgl (fun h => h)).trans K0.out; have hpp := Nat.lt_of_lt_of_le hgl hwz.size; go_simp; try with_reducible rfl)
      case b4q => (simp only [Act.put, List.setIfInBounds_toArray, List.set_cons_zero, List.set_cons_succ]; rfl)
      refine Rg.op 5 (some 49) hS (v := (.int .i64 nn)) (a' := ?a5q) (hy := fun wz hwz => ?h5q) (ha := ?b5q) (h := ?_)
      case h5q => (have y := j0; go_simp; try with_reducible rfl)
      case b5q => (simp only [Act.put, List.setIfInBounds_toArray, List.set_cons_zero, List.set_cons_succ]; rfl)
      refine Rg.op 6 (some 50) hS (v := ?v6q) (a' := ?a6q) (hy := fun wz hwz => ?h6q) (ha := ?b6q) (h := ?_)
      case h6q => (go_simp; try with_reducible rfl)
      case b6q => (simp only [Act.put, List.setIfInBounds_toArray, List.set_cons_zero, List.set_cons_succ]; rfl)
      refine Rg.op 7 (some 51) hS (v := ?v7q) (a' := ?a7q) (hy := fun wz hwz => ?h7q) (ha := ?b7q) (h := ?_)
      case h7q => (go_simp; try with_reducible rfl)
      case b7q => (simp only [Act.put, List.setIfInBounds_toArray, List.set_cons_zero, List.set_cons_succ]; rfl)
      refine Rg.op 8 (some 52) hS (v := ?v8q) (a' := ?a8q) (hy := fun wz hwz => ?h8q) (ha := ?b8q) (h := ?_)
      case h8q => (go_simp; try with_reducible rfl)
      case b8q => (simp only [Act.put, List.setIfInBounds_toArray, List.set_cons_zero, List.set_cons_succ]; rfl)
      refine Rg.op 9 (some 53) hS (v := ?v9q) (a' := ?a9q) (hy := fun wz hwz => ?h9q) (ha := ?b9q) (h := ?_)
      case h9q => (go_simp; try with_reducible rfl)
      case b9q => (simp only [Act.put, List.setIfInBounds_toArray, List.set_cons_zero, List.set_cons_succ]; rfl)
      refine Rg.op 10 (some 54) hS (v := ?v10q) (a' := ?a10q) (hy := fun wz hwz => ?h10q) (ha := ?b10q) (h := ?_)
      case h10q => (have cc := (hwz.cell (p := ⟨g, o + i * 2 + 1, none⟩) hgl (fun h => h)).trans K1.out; have hpp := Nat.lt_of_lt_of_le hgl hwz.size; go_simp; try with_reducible rfl)
      case b10q => (simp only [Act.put, List.setIfInBounds_toArray, List.set_cons_zero, List.set_cons_succ]; rfl)
      refine Rg.op 11 (some 55) hS (v := (.int .i64 m)) (a' := ?a11q) (hy := fun wz hwz => ?h11q) (ha := ?b11q) (h := ?_)
      case h11q => (have y := j1; go_simp; try with_reducible rfl)
      case b11q => (simp only [Act.put, List.setIfInBounds_toArray, List.set_cons_zero, List.set_cons_succ]; rfl)
      refine Rg.op 12 (some 56) hS (v := ?v12q) (a' := ?a12q) (hy := fun wz hwz => ?h12q) (ha := ?b12q) (h := ?_)
      case h12q => (go_simp; try with_reducible rfl)
      case b12q => (simp only [Act.put, List.setIfInBounds_toArray, List.set_cons_zero, List.set_cons_succ]; rfl)
      have hSa : Fr Nob wr (wr.alloc (.cells #[.int .i64 0, .int .i64 0] 33)).drew := ((Fr.refl _ wr).alloc _).drew
      refine Rg.run 13 (some 12) (v := ?v13q) (a' := ?a13q) (w' := (((wr.alloc (.cells #[.int .i64 0, .int .i64 0] 33)).drew))) (hrun := ?h13q) (ha := ?b13q) (hS := (fun _ => hSa)) (h := ?_)
      case h13q => (go_simp; try with_reducible rfl)
      case b13q => (simp only [Act.put, List.setIfInBounds_toArray, List.set_cons_zero, List.set_cons_succ]; rfl)
      have hSb : Fr Nob wr ((wr.alloc (.cells #[.int .i64 nn, .int .i64 m] 33)).drew) := ((Fr.refl _ wr).alloc _).drew
      refine Rg.store 14 (w' := (((wr.alloc (.cells #[.int .i64 nn, .int .i64 m] 33)).drew))) (hrun := ?h14q) (hS := (fun _ => hSb)) (h := ?_)
      case h14q => (go_simp; try with_reducible rfl)
      refine Rg.done _ (h := ?_)
      have hbq : Blk ((wr.alloc (.cells #[.int .i64 nn, .int .i64 m] 33)).drew) wr.heap.size 33 #[.int .i64 nn, .int .i64 m] := (Blk.new _ _ _).drew
      have hAq := HA.out.new hSb
      have hPq := HPg.out.fr hSb (fun b _ h => h.elim)
      obtain ⟨wq, hwq⟩ : ∃ W, ((wr.alloc (.cells #[.int .i64 nn, .int .i64 m] 33)).drew) = W := ⟨_, rfl⟩
      obtain ⟨gq, hgq⟩ : ∃ b, wr.heap.size = b := ⟨_, rfl⟩
      rw [hgq] at hbq
      rw [hwq] at hbq hAq hPq hSb
      have HBq := Lib.hid hbq
      have HAq := Lib.hid hAq
      have HPq := Lib.hid hPq
      have HSb := Lib.hid hSb
      have hgqB : B0 ≤ gq := by rw [← hgq]; exact HA.out.b0
      clear hbq hAq hPq hS hSa hSb HPg
      go_wp2
      try rw [hwq]
      try rw [hgq]
      clear hwq hgq
      go_loopw [13, 14] (fun s13 s14 wi => ∃ k : Nat, k ≤ xs.length ∧ s14 = .int .i64 k ∧ s13 = .bool ((l.take k).any fun y => y.no == nn) ∧ Hid (Fr Nob wq wi)) (fun _ s14 _ => xs.length - (intOf s14).toNat)
      case atStart => exact ⟨0, by omega, rfl, by simp, Fr.refl _ _⟩
      case round =>
        obtain ⟨k, hk, rfl, rfl, hF⟩ := hrel
        by_cases hkl : k < xs.length
        · obtain ⟨y, hy⟩ : ∃ y, l[k]? = some y := ⟨_, List.getElem?_eq_getElem (by have := HXl.out; omega)⟩
          obtain ⟨⟨y', yv⟩, hxy⟩ : ∃ z, xs[k]? = some z := ⟨_, List.getElem?_eq_getElem hkl⟩
          have hyy : y' = y := by
            have e1 : (xs.map (·.1))[k]? = some y' := by rw [List.getElem?_map, hxy]; rfl
            rw [HAq.out.row.eq, hy] at e1
            injection e1 with e1; exact e1.symm
          subst hyy
          obtain ⟨gs, hAe, _, hcs⟩ := HPq.out.fr hF.out (fun b _ h => h.elim) (by omega)
          subst hAe
          obtain ⟨c0y, _⟩ := hcs k _ hxy
          dsimp only at c0y
          have hgsl : gs < wr.heap.size := cell_lt c0y
          have HC0 := Lib.hid c0y
          have hbi := HBq.out.fr hF.out (fun h => h)
          have HBi := Lib.hid hbi
          have HTk : Hid ((l.take (k + 1)).any (fun y => y.no == nn) = ((l.take k).any (fun y => y.no == nn) || (y'.no == nn))) := by
            show _ = _
            rw [List.take_add_one, hy, List.any_append]; simp
          clear hcs c0y hxy hbi hy
          have hlx : (k : Int) < (xs.length : Int) := by omega
          cases hod : (l.take k).any (fun y => y.no == nn) with
          | true =>
            rw [hod] at HTk
            go_wp2
            have hS : Fr Nob wr wr.drew := (Fr.refl _ wr).drew
            refine Rg.begin' (Fr Nob wr) [] (by kernel_rfl) ?_
            refine Rg.op 0 (some 63) hS (v := ?v0o1) (a' := ?a0o1) (hy := fun wz hwz => ?h0o1) (ha := ?b0o1) (h := ?_)
            case h0o1 => (go_simp; try with_reducible rfl)
            case b0o1 => (simp only [Act.put, List.setIfInBounds_toArray, List.set_cons_zero, List.set_cons_succ]; rfl)
            refine Rg.op 1 (some 64) hS (v := ?v1o1) (a' := ?a1o1) (hy := fun wz hwz => ?h1o1) (ha := ?b1o1) (h := ?_)
            case h1o1 => (go_simp; try with_reducible rfl)
            case b1o1 => (simp only [Act.put, List.setIfInBounds_toArray, List.set_cons_zero, List.set_cons_succ]; rfl)
            refine Rg.pass 2 (some 65) hS (a' := ?a2o1) (ha := ?b2o1) (h := ?_)
            case b2o1 => (simp only [Act.put, List.setIfInBounds_toArray, List.set_cons_zero, List.set_cons_succ]; rfl)
            refine Rg.pass 3 (some 66) hS (a' := ?a3o1) (ha := ?b3o1) (h := ?_)
            case b3o1 => (simp only [Act.put, List.setIfInBounds_toArray, List.set_cons_zero, List.set_cons_succ]; rfl)
            refine Rg.pass 4 (some 67) hS (a' := ?a4o1) (ha := ?b4o1) (h := ?_)
            case b4o1 => (simp only [Act.put, List.setIfInBounds_toArray, List.set_cons_zero, List.set_cons_succ]; rfl)
            refine Rg.pass 5 (some 68) hS (a' := ?a5o1) (ha := ?b5o1) (h := ?_)
            case b5o1 => (simp only [Act.put, List.setIfInBounds_toArray, List.set_cons_zero, List.set_cons_succ]; rfl)
            refine Rg.pass 6 (some 69) hS (a' := ?a6o1) (ha := ?b6o1) (h := ?_)
            case b6o1 => (simp only [Act.put, List.setIfInBounds_toArray, List.set_cons_zero, List.set_cons_succ]; rfl)
            refine Rg.pass 7 (some 70) hS (a' := ?a7o1) (ha := ?b7o1) (h := ?_)
            case b7o1 => (simp only [Act.put, List.setIfInBounds_toArray, List.set_cons_zero, List.set_cons_succ]; rfl)
            refine Rg.pass 8 (some 71) hS (a' := ?a8o1) (ha := ?b8o1) (h := ?_)
            case b8o1 => (simp only [Act.put, List.setIfInBounds_toArray, List.set_cons_zero, List.set_cons_succ]; rfl)
            refine Rg.pass 9 (some 72) hS (a' := ?a9o1) (ha := ?b9o1) (h := ?_)
            case b9o1 => (simp only [Act.put, List.setIfInBounds_toArray, List.set_cons_zero, List.set_cons_succ]; rfl)
            refine Rg.op 10 (some 73) hS (v := ?v10o1) (a' := ?a10o1) (hy := fun wz hwz => ?h10o1) (ha := ?b10o1) (h := ?_)
            case h10o1 => (go_simp; try with_reducible rfl)
            case b10o1 => (simp only [Act.put, List.setIfInBounds_toArray, List.set_cons_zero, List.set_cons_succ]; rfl)
            refine Rg.op 11 (some 13) hS (v := ?v11o1) (a' := ?a11o1) (hy := fun wz hwz => ?h11o1) (ha := ?b11o1) (h := ?_)
            case h11o1 => (go_simp; try with_reducible rfl)
            case b11o1 => (simp only [Act.put, List.setIfInBounds_toArray, List.set_cons_zero, List.set_cons_succ]; rfl)
            refine Rg.done _ (h := ?_)
            go_wp2
            go_roundw
            case rel => exact ⟨k + 1, by omega, by go_num, by rw [HTk.out]; rfl, hF.out.trans hS⟩
            case measure => simp [intOf]; omega
          | false =>
            rw [hod] at HTk
            go_wp2
            have hS : Fr Nob wr wr.drew := (Fr.refl _ wr).drew
            refine Rg.begin' (Fr Nob wr) [] (by kernel_rfl) ?_
            refine Rg.op 0 (some 63) hS (v := ?v0o2) (a' := ?a0o2) (hy := fun wz hwz => ?h0o2) (ha := ?b0o2) (h := ?_)
            case h0o2 => (go_simp; try with_reducible rfl)
            case b0o2 => (simp only [Act.put, List.setIfInBounds_toArray, List.set_cons_zero, List.set_cons_succ]; rfl)
            refine Rg.op 1 (some 64) hS (v := ?v1o2) (a' := ?a1o2) (hy := fun wz hwz => ?h1o2) (ha := ?b1o2) (h := ?_)
            case h1o2 => (go_simp; try with_reducible rfl)
            case b1o2 => (simp only [Act.put, List.setIfInBounds_toArray, List.set_cons_zero, List.set_cons_succ]; rfl)
            refine Rg.op 2 (some 65) hS (v := ?v2o2) (a' := ?a2o2) (hy := fun wz hwz => ?h2o2) (ha := ?b2o2) (h := ?_)
            case h2o2 => (go_simp; try with_reducible rfl)
            case b2o2 => (simp only [Act.put, List.setIfInBounds_toArray, List.set_cons_zero, List.set_cons_succ]; rfl)
            refine Rg.op 3 (some 66) hS (v := ?v3o2) (a' := ?a3o2) (hy := fun wz hwz => ?h3o2) (ha := ?b3o2) (h := ?_)
            case h3o2 => (go_simp; try with_reducible rfl)
            case b3o2 => (simp only [Act.put, List.setIfInBounds_toArray, List.set_cons_zero, List.set_cons_succ]; rfl)
            refine Rg.op 4 (some 67) hS (v := ?v4o2) (a' := ?a4o2) (hy := fun wz hwz => ?h4o2) (ha := ?b4o2) (h := ?_)
            case h4o2 => (go_simp; try with_reducible rfl)
            case b4o2 => (simp only [Act.put, List.setIfInBounds_toArray, List.set_cons_zero, List.set_cons_succ]; rfl)
            refine Rg.op 5 (some 68) hS (v := ?v5o2) (a' := ?a5o2) (hy := fun wz hwz => ?h5o2) (ha := ?b5o2) (h := ?_)
            case h5o2 => (go_simp; try with_reducible rfl)
            case b5o2 => (simp only [Act.put, List.setIfInBounds_toArray, List.set_cons_zero, List.set_cons_succ]; rfl)
            refine Rg.op 6 (some 69) hS (v := ?v6o2) (a' := ?a6o2) (hy := fun wz hwz => ?h6o2) (ha := ?b6o2) (h := ?_)
            case h6o2 => (have cc := (hwz.cell (p := ⟨gs, k * 3, none⟩) hgsl (fun h => h)).trans HC0.out; have hpp := Nat.lt_of_lt_of_le hgsl hwz.size; go_simp; try with_reducible rfl)
            case b6o2 => (simp only [Act.put, List.setIfInBounds_toArray, List.set_cons_zero, List.set_cons_succ]; rfl)
            refine Rg.op 7 (some 70) hS (v := ?v7o2) (a' := ?a7o2) (hy := fun wz hwz => ?h7o2) (ha := ?b7o2) (h := ?_)
            case h7o2 => (go_simp; try with_reducible rfl)
            case b7o2 => (simp only [Act.put, List.setIfInBounds_toArray, List.set_cons_zero, List.set_cons_succ]; rfl)
            refine Rg.op 8 (some 71) hS (v := ?v8o2) (a' := ?a8o2) (hy := fun wz hwz => ?h8o2) (ha := ?b8o2) (h := ?_)
            case h8o2 => (have hb := HBi.out.fr hwz (fun h => h); have cc1 := Blk.cell hb 0; have hpp := Blk.lt hb; simp only [List.getElem?_toArray, List.getElem?_cons_zero, List.getElem?_cons_succ] at cc1; clear hb; go_simp; try with_reducible rfl)
            case b8o2 => (simp only [Act.put, List.setIfInBounds_toArray, List.set_cons_zero, List.set_cons_succ]; rfl)
            refine Rg.op 9 (some 72) hS (v := (.bool (y'.no == nn))) (a' := ?a9o2) (hy := fun wz hwz => ?h9o2) (ha := ?b9o2) (h := ?_)
            case h9o2 => (have y : ((y'.no : Int) == (nn : Int)) = (y'.no == nn) := (by rw [Bool.eq_iff_iff]; simp; omega); go_simp; try with_reducible rfl)
            case b9o2 => (simp only [Act.put, List.setIfInBounds_toArray, List.set_cons_zero, List.set_cons_succ]; rfl)
            refine Rg.op 10 (some 73) hS (v := ?v10o2) (a' := ?a10o2) (hy := fun wz hwz => ?h10o2) (ha := ?b10o2) (h := ?_)
            case h10o2 => (go_simp; try with_reducible rfl)
            case b10o2 => (simp only [Act.put, List.setIfInBounds_toArray, List.set_cons_zero, List.set_cons_succ]; rfl)
            refine Rg.op 11 (some 13) hS (v := ?v11o2) (a' := ?a11o2) (hy := fun wz hwz => ?h11o2) (ha := ?b11o2) (h := ?_)
            case h11o2 => (go_simp; try with_reducible rfl)
            case b11o2 => (simp only [Act.put, List.setIfInBounds_toArray, List.set_cons_zero, List.set_cons_succ]; rfl)
            refine Rg.done _ (h := ?_)
            go_wp2
            go_roundw
            case rel => exact ⟨k + 1, by omega, by go_num, by rw [HTk.out]; rfl, hF.out.trans hS⟩
            case measure => simp [intOf]; omega
        · obtain rfl : k = xs.length := by omega
          rw [List.take_of_length_le (by have := HXl.out; omega : l.length ≤ xs.length)]
          have HAi := Lib.hid (HAq.out.new hF.out)
          have HBi := Lib.hid (HBq.out.fr hF.out (fun h => h))
          clear HAq HBq HPq hF HSb HA
          cases hod : l.any (fun y => y.no == nn) with
          | true =>
            go_wp2
            go_roundw
            case rel => exact ⟨i + 1, T, B0, p, R, S, lot, cur, l, xs, ns, by omega, by omega, by omega, by have := HXl.out; omega, rfl, by go_num, HAi.out⟩
            case measure => simp [intOf]; omega
          | false =>
            have HNew : Hid (∀ y ∈ l, y.no ≠ nn) := fun y hy e => by
              have := List.any_eq_false.1 hod y hy
              simp [e] at this
            have HOf : Hid (∀ W, Calls Tryd.prog 8 #[.agg #[.int .i64 nn, .int .i64 m]] W fun e w' => ∃ g, e = .returned (.agg #[.int .i64 nn, .int .u64 m, .slice (some ⟨g, 0, none⟩) 480 480]) ∧ Blk w' g 5 (bts (dataB m)).toArray ∧ W.heap.size ≤ g ∧ Fr Nob W w') := by
              intro W
              have := of_any nn m W
              rw [show (m : Int) % 65536 = (m : Int) from by omega, Int.toNat_natCast] at this
              exact this
            have b0 := Blk.cell HBi.out 0
            have b1 := Blk.cell HBi.out 1
            have bl := HBi.out.lt
            simp only [List.getElem?_toArray, List.getElem?_cons_zero, List.getElem?_cons_succ] at b0 b1
            clear hod
            go_wp2_with fail
            refine (HOf.out _).mono ?_
            rintro e w4 ⟨gf, rfl, hb4, hg4, hf4⟩
            have hA4 := HAi.out.new hf4
            have hb4l := hb4.lt
            have hwlt := hf4.size
            have HA5 : Hid (AgSt w (w4.alloc (.cells #[.int .i64 nn, .int .u64 m, .slice (some ⟨gf, 0, none⟩) 480 480] 37)) 30 d gn p T B0 R S lot cur (.slice A xs.length c) l xs ns) := hA4.new ((Fr.refl _ _).alloc _)
            have HOlt : Hid (∀ g, Value.ownBlock (.slice A xs.length c) = some g → g < wr.heap.size) := fun g hg => (HAi.out.row.own.lt g hg).2
            have HPc : Hid (PCell (fun b => b < B0 ∨ some b = Value.ownBlock (.slice A xs.length c)) (w4.alloc (.cells #[.int .i64 nn, .int .u64 m, .slice (some ⟨gf, 0, none⟩) 480 480] 37)) ⟨nn, m, dataB m⟩ (.slice (some ⟨gf, 0, none⟩) 480 480)) := PCell.mk_ (hb4.alloc _) (dataB_length m) (fun h => by
              rcases h with h | h
              · have := HAi.out.b0; omega
              · have := HOlt.out gf h.symm; omega)
            have HF5 : Hid (Fr Nob wr (w4.alloc (.cells #[.int .i64 nn, .int .u64 m, .slice (some ⟨gf, 0, none⟩) 480 480] 37))) := hf4.alloc _
            have HNw : Hid (∀ j u, ([.int .i64 nn, .int .u64 m, .slice (some ⟨gf, 0, none⟩) 480 480] : List Value)[j]? = some u → (w4.alloc (.cells #[.int .i64 nn, .int .u64 m, .slice (some ⟨gf, 0, none⟩) 480 480] 37)).cell? ((⟨w4.heap.size, 0, none⟩ : Addr).add j) = some u) := fun j u hu => World.news_of_block (Blk.new w4 37 #[.int .i64 nn, .int .u64 m, .slice (some ⟨gf, 0, none⟩) 480 480]) j u (by simpa using hu)
            obtain ⟨i0, hi0, hz0, hz1, hz2⟩ := info_parts info_Page
            have hb04 : B0 ≤ (w4.alloc (.cells #[.int .i64 nn, .int .u64 m, .slice (some ⟨gf, 0, none⟩) 480 480] 37)).heap.size := HA5.out.b0
            have hx8 : xs.length ≤ 8 := by omega
            have hT62 : T + 1 < 4611686018427387904 := by omega
            have hnsl := HAi.out.nsl
            have hns8 : ∃ old, ns[nn]? = some old := ⟨_, List.getElem?_eq_getElem (by omega)⟩
            obtain ⟨old, hold⟩ := hns8
            clear hA4 hb4 hf4 HOf b0 b1
            by_cases hfull : xs.length + 1 < ec + 1
            · have hlx2 : ((xs.length + 1 : Nat) : Int) < ((ec + 1 : Nat) : Int) := by omega
              go_wp2_with (at_builtin; go_must (refine wpList_append_own_at _ rfl (.tmp 75) (.tmp 78) 31 rfl B0 37 i0 (.agg #[.int .i64 0, .int .u64 0, .slice none 0 0]) 3 40 Tryd.underlying31 hi0 hz0 hz1 hz2 rfl (by decide) _ xs.length (pgCells xs) rfl HA5.out.row.own ⟨w4.heap.size, 0, none⟩ 1 1 [.int .i64 nn, .int .u64 m, .slice (some ⟨gf, 0, none⟩) 480 480] rfl rfl HNw.out (by simp [Value.oneCell']) (by unfold maxLen; omega) (by omega) hb04 ?_); intro v7 w7 hown7 hg7 hn7 hat7; obtain ⟨ga, ca, hv7, _, _⟩ := hown7.form (by omega); subst hv7; have HPush := Lib.hid (HA5.out.push (x := ⟨nn, m, dataB m⟩) (xv := .slice (some ⟨gf, 0, none⟩) 480 480) (Fr.refl Nob _) HPc.out hown7 hg7 hat7 ⟨by show nn < 100000; omega, by show m < 18446744073709551616; omega, dataB_length m⟩ hn8 HNew.out rfl hm6); have f7 : Fr (fun b => some b = Value.ownBlock (.slice A xs.length c)) (w4.alloc (.cells #[.int .i64 nn, .int .u64 m, .slice (some ⟨gf, 0, none⟩) 480 480] 37)) w7 := Fr.grown (Fr.refl _ _) hg7 (fun r hr => .inr hr.symm); have hbq7 := (HBi.out.fr HF5.out (fun h => h)).fr f7 (fun e => Blk.own_ne (HBi.out.fr HF5.out (fun h => h)) HA5.out.row.own (by decide) e); have har7 := HA5.out.arr.fr f7 (fun e => Blk.own_ne HA5.out.arr HA5.out.row.own (by decide) e); have q0 := Blk.cell hbq7 0; have q1 := Blk.cell hbq7 1; have ql := hbq7.lt; have ar := Blk.cell har7 nn; have af := Blk.frozen har7 nn; have al := har7.lt; rw [arrOf_get, hold] at ar; simp only [List.getElem?_toArray, List.getElem?_cons_zero, List.getElem?_cons_succ, Option.map_some] at q0 q1 ar; clear hown7 hg7 hn7 hat7 f7 hbq7 har7)
              go_roundw
              case rel => exact ⟨i + 1, T, B0, p, R, S, lot, cur, _, _, _, by omega, by omega, by omega, by rw [List.length_append, List.length_singleton]; have := HXl.out; omega, rfl, by go_num, HPush.out⟩
              case measure => simp [intOf]; omega
            · have hlx2 : ¬ ((xs.length + 1 : Nat) : Int) < ((ec + 1 : Nat) : Int) := by omega
              go_wp2_with (at_builtin; go_must (refine wpList_append_own_at _ rfl (.tmp 75) (.tmp 78) 31 rfl B0 37 i0 (.agg #[.int .i64 0, .int .u64 0, .slice none 0 0]) 3 40 Tryd.underlying31 hi0 hz0 hz1 hz2 rfl (by decide) _ xs.length (pgCells xs) rfl HA5.out.row.own ⟨w4.heap.size, 0, none⟩ 1 1 [.int .i64 nn, .int .u64 m, .slice (some ⟨gf, 0, none⟩) 480 480] rfl rfl HNw.out (by simp [Value.oneCell']) (by unfold maxLen; omega) (by omega) hb04 ?_); intro v7 w7 hown7 hg7 hn7 hat7; obtain ⟨ga, ca, hv7, _, _⟩ := hown7.form (by omega); subst hv7; have HPush := Lib.hid (HA5.out.push (x := ⟨nn, m, dataB m⟩) (xv := .slice (some ⟨gf, 0, none⟩) 480 480) (Fr.refl Nob _) HPc.out hown7 hg7 hat7 ⟨by show nn < 100000; omega, by show m < 18446744073709551616; omega, dataB_length m⟩ hn8 HNew.out rfl hm6); have f7 : Fr (fun b => some b = Value.ownBlock (.slice A xs.length c)) (w4.alloc (.cells #[.int .i64 nn, .int .u64 m, .slice (some ⟨gf, 0, none⟩) 480 480] 37)) w7 := Fr.grown (Fr.refl _ _) hg7 (fun r hr => .inr hr.symm); have hbq7 := (HBi.out.fr HF5.out (fun h => h)).fr f7 (fun e => Blk.own_ne (HBi.out.fr HF5.out (fun h => h)) HA5.out.row.own (by decide) e); have har7 := HA5.out.arr.fr f7 (fun e => Blk.own_ne HA5.out.arr HA5.out.row.own (by decide) e); have q0 := Blk.cell hbq7 0; have q1 := Blk.cell hbq7 1; have ql := hbq7.lt; have ar := Blk.cell har7 nn; have af := Blk.frozen har7 nn; have al := har7.lt; rw [arrOf_get, hold] at ar; simp only [List.getElem?_toArray, List.getElem?_cons_zero, List.getElem?_cons_succ, Option.map_some] at q0 q1 ar; clear hown7 hg7 hn7 hat7 f7 hbq7 har7)
              obtain ⟨A7, c7, hv7, hwr⟩ := HPush.out.write (by rw [List.length_append, List.length_singleton]; omega) (by rw [List.length_append, List.length_singleton]; have := HXl.out; omega) hT62
              have hl7 : (xs ++ [((⟨nn, m, dataB m⟩ : PgV), Value.slice (some ⟨gf, 0, none⟩) 480 480)]).length = xs.length + 1 := by rw [List.length_append, List.length_singleton]
              rw [hl7] at hwr hv7
              injection hv7 with hv1 _ hv3
              subst hv1 hv3
              refine hwr.mono ?_
              rintro e w8 ⟨rfl, R8, S8, cur8, hA8⟩
              have HA8 := Lib.hid hA8
              have HCr := Lib.hid (hA8.crash (cc := 0))
              clear hA8 hwr HPush
              go_wp2_with fail
              refine HCr.out.mono ?_
              rintro e w9 ⟨rfl, hA9⟩
              have HOd := Lib.hid hA9.opened
              clear hA9
              go_wp2_with fail
              refine HOd.out.mono ?_
              rintro e w10 ⟨p10, R10, S10, rfl, hA10⟩
              have HA10 := Lib.hid hA10
              clear hA10
              go_wp2
              go_roundw
              case rel => exact ⟨i + 1, T + 1, _, p10, R10, S10, _, _, [], [], _, by omega, by omega, by omega, by simp, rfl, by go_num, HA10.out⟩
              case measure => simp [intOf]; omega
    · have HXn : Hid (l.length ≤ 8) := by have := HXl.out; show l.length ≤ 8; omega
      obtain ⟨A', c', hv', hwr⟩ := HA.out.writeAny HXn.out (by omega)
      injection hv' with hv1 _ hv3
      subst hv1 hv3
      have HWr := Lib.hid hwr
      have HAw := Lib.hid (pgawake_any)
      clear hwr HPg HA
      rcases (by omega : ¬ (i : Int) < (rn : Int) ∨ ((i : Int) < (rn : Int) ∧ ¬ (i : Int) < 24)) with hlt | ⟨hlt, hlt24⟩
      all_goals
        go_wp2_with fail
        refine HWr.out.mono ?_
        rintro e w8 ⟨rfl, T8, B8, R8, S8, lot8, cur8, v8, xs8, hA8⟩
        have HA8 := Lib.hid hA8
        clear hA8 HWr
        go_wp2
        go_loopw [15] (fun s15 wi => ∃ k : Nat, k ≤ 8 ∧ s15 = .int .i64 k ∧ Hid (AgSt w wi 30 d gn p T8 B8 R8 S8 lot8 cur8 v8 [] xs8 ns)) (fun s15 _ => 8 - (intOf s15).toNat)
        case atStart => exact ⟨0, by omega, rfl, HA8.out⟩
        case round =>
          obtain ⟨k, hk, rfl, hAk⟩ := hrel
          by_cases hk8 : k < 8
          · have hnsl := hAk.out.nsl
            obtain ⟨n, hn⟩ : ∃ n, ns[k]? = some n := ⟨_, List.getElem?_eq_getElem (by omega)⟩
            have HIs := Lib.hid (hAk.out.is_ k n hn)
            have ca := Blk.cell hAk.out.arr k
            have al := hAk.out.arr.lt
            rw [arrOf_get, hn, Option.map_some] at ca
            clear hAk hnsl hn HA8
            go_wp2_with fail
            refine HIs.out.mono ?_
            rintro e w9 ⟨rfl, hA9⟩
            have HA9 := Lib.hid hA9
            clear hA9 HIs ca al
            go_wp2
            go_roundw
            case rel => exact ⟨k + 1, by omega, by go_num, HA9.out⟩
            case measure => simp [intOf]; omega
          · obtain rfl : k = 8 := by omega
            have HF9 := Lib.hid hAk.out.fr0
            clear hAk HA8
            go_wp2_with fail
            refine (HAw.out _).mono ?_
            rintro e w9 ⟨rfl, hf9⟩
            have HF10 := Lib.hid (HF9.out.trans hf9)
            clear hf9
            go_wp2
            go_ret
            exact ⟨rfl, HF10.out⟩
end Go.Proofs.YtilclfeaolhoeaaDoor
