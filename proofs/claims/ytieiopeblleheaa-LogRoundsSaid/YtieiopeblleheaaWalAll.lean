/-
  The closure that All hands back: it yields a copy of each record, by its number.
-/
import Derived.Test.YtieiopeblleheaaWalAppend
import Derived.Test.YtieiopeblleheaaTells
import Derived.Test.YtieiopeblleheaaRegIn
namespace Go.Proofs.Ytieiopeblleheaa
set_option linter.unusedSimpArgs false
set_option linter.unusedVariables false
open Go.RowKit Go.Shelf
attribute [local go_sem] Oper.semAt_some

/-- A record as it is told: its number, the slice that is handed over, its bytes. -/
structure Rec where
  id : Nat
  v : Value
  b : List UInt8
def encR (x : Rec) : Array Value := #[.int .u64 x.id, x.v]
/-- What holds of the slice in the world in which it is handed over. -/
def RecNew (B : Nat) (x : Rec) (w : World) : Prop := w.ownsRow B 5 1 x.v x.b.length (bts x.b)
/-- The records of a log, by their numbers. -/
def LS.recs (L : LS) : List (Nat × List UInt8) := L.l.mapIdx fun i r => (L.first + i, r.1)
theorem LS.recs_length (L : LS) : L.recs.length = L.l.length := by simp [LS.recs]
theorem LS.recs_take (L : LS) (k : Nat) (h : k < L.l.length) : L.recs.take (k + 1) = L.recs.take k ++ [(L.first + k, L.l[k].1)] := by
  rw [List.take_add_one, List.getElem?_eq_getElem (by rw [LS.recs_length]; exact h)]
  simp [LS.recs]

theorem grown_of_fr {w w' : World} (h : Fr Nob w w') : w.grownBy w' none := ⟨h.os, h.tape, h.output, h.size, fun k hk _ => h.block k hk (fun h => h)⟩

/-- bytes.Clone of a record. -/
theorem cloneRec {w : World} {v : Value} {b : List UInt8} (h : w.ownsRow 0 5 1 v b.length (bts b)) (hb : b.length ≤ 3000000000) :
    Calls Try.prog 56 #[v] w fun e w' => ∃ v', e = .returned v' ∧ w'.ownsRow w.heap.size 5 1 v' b.length (bts b) ∧ Fr Nob w w' := by
  rcases h.2 with ⟨rfl, h0⟩ | ⟨g, cap, cur, rfl, _, hh, h1, h2, h3, h4⟩
  · refine (bytesClone_nil 0 w).mono ?_
    rintro e w' ⟨rfl, rfl⟩
    refine ⟨_, rfl, ?_, Fr.refl _ _⟩
    obtain rfl : b = [] := List.eq_nil_of_length_eq_zero h0
    exact World.ownsRow_nil _ _ _ _
  · refine (bytesClone_cut ⟨g, 0, none⟩ cap b (bytesIn_own h) (Blk.lt hh) (by omega)).mono ?_
    rintro e w' ⟨g', cap', rfl, ho, hf⟩
    exact ⟨_, rfl, ho, hf⟩

set_option maxHeartbeats 3200000 in
set_option maxRecDepth 100000 in
theorem All1_in (n : Nat) (l Bk p d : Nat) (R M : Nat → Prop) (L : LS) (B : Nat) (J : List Rec → World → Prop) (W : World) (hJ : AbidesFrom W.heap.size J)
    (hY : ∀ pre x U, J pre U → RecNew B x U ∧ L.recs[pre.length]? = some (x.id, x.b) → pre.length < L.l.length → YieldAt Fence.wide (n - 1) Try.prog l (encR x) U fun e V => e = .returned (.bool true) ∧ J (pre ++ [x]) V ∧ Fr M U V)
    (hB : B ≤ W.heap.size) (hL : LogOk R W p d L) (hM : ∀ b, M b → ¬ R b ∧ b ≠ Bk) (hbk : Blk W Bk 56 #[.pointer (some ⟨p, 0, none⟩)]) (hsm : ∀ x ∈ L.l, x.1.length ≤ 3000000000) (hfirst : L.first + L.l.length < 18446744073709551616) (hll : L.l.length < 4000000000)
    (h0 : J [] W) :
    CallsIn Fence.wide n Try.prog 67 #[.func (.yield l) #[] #[], .pointer (some ⟨Bk, 0, none⟩)] W fun e V => (∃ v, e = .returned v) ∧ ∃ xs, xs.map (fun x => (x.id, x.b)) = L.recs ∧ J xs V := by
  obtain ⟨lv, rv, hL⟩ := hL
  have HL := Lib.hid hL
  have HBk := Lib.hid hbk
  have HM := Lib.hid hM
  have HY := Lib.hid hY
  have HJ := Lib.hid hJ
  have H0 := Lib.hid h0
  have HSm := Lib.hid hsm
  obtain ⟨A, c, hlv⟩ : ∃ A c, lv = .slice A L.l.length c := by
    rcases hL.own.2 with ⟨e, e2⟩ | ⟨g, o, cap, cur, e, _⟩
    · rw [e2]; exact ⟨_, _, e⟩
    · exact ⟨_, _, e⟩
  have q0 : W.cell? ⟨Bk, 0, none⟩ = some (.pointer (some ⟨p, 0, none⟩)) := hbk.cell 0
  have q6 : W.cell? ⟨p, 6, none⟩ = some (.slice A L.l.length c) := by rw [← hlv]; exact hL.blk.cell 6
  have hpz := hL.blk.lt
  have hbz := hbk.lt
  have HLv := Lib.hid hlv
  clear hL hbk hM hY hJ h0 hsm hlv
  refine callsIn_of_wp Try.func67 rfl trivial ?_ rfl
  simp only [Try.ntmps67, List.size_toArray, List.length_cons, List.length_nil, Nat.reduceAdd, Nat.reduceSub, Array.replicate_succ, Array.replicate_zero, List.push_toArray, List.append_toArray, List.nil_append, List.cons_append]
  gi_wp2
  gi_loopw [3, 4, 10] (fun _ _ i wr => ∃ k : Nat, k ≤ L.l.length ∧ i = .int .i64 k ∧ Hid (∃ xs, xs.map (fun x => (x.id, x.b)) = L.recs.take k ∧ J xs wr) ∧ Hid (Fr M W wr))
    (fun _ _ i _ => L.l.length - (intOf i).toNat)
  case atStart => exact ⟨0, Nat.zero_le _, rfl, ⟨[], rfl, H0.out⟩, Fr.refl _ _⟩
  case round =>
    obtain ⟨k, hk, rfl, hX, hF⟩ := hrel
    by_cases hlt : k < L.l.length
    · obtain ⟨xs, hxs, hJx⟩ := hX.out
      have hLr := HL.out.fr hF.out (fun b hb hm => (HM.out b hm).1 hb)
      have hBr := HBk.out.fr hF.out (fun hm => (HM.out _ hm).2 rfl)
      have hown := hLr.own
      rw [HLv.out] at hown
      obtain ⟨g, o, cap, e, hglt, _⟩ := hown.form (by omega)
      injection e with e1 e2 e3
      subst e1 e3
      clear e2
      have hkv : k < rv.length := by rw [hLr.recs.1]; exact hlt
      have hx := recCells_get rv k hkv
      have d0 := hown.cellAt (k * 2) (by omega)
      have d1 := hown.cellAt (k * 2 + 1) (by omega)
      rw [hx.1] at d0
      rw [hx.2, ← Nat.add_assoc] at d1
      have hrk := hLr.recs.2 k rv[k] L.l[k] (List.getElem?_eq_getElem hkv) (List.getElem?_eq_getElem hlt)
      have hsmk := HSm.out _ (List.getElem_mem hlt)
      have hrt := LS.recs_take L k hlt
      have HRt := Lib.hid hrt
      obtain ⟨v, hv⟩ : ∃ v, rv[k].1 = v := ⟨_, rfl⟩
      obtain ⟨at_, hat⟩ : ∃ a, rv[k].2 = a := ⟨_, rfl⟩
      obtain ⟨b, hb⟩ : ∃ b, L.l[k].1 = b := ⟨_, rfl⟩
      rw [hv] at d0
      rw [hat] at d1
      rw [hv, hb] at hrk
      rw [hb] at HRt hsmk
      obtain ⟨A2, n2, c2, hve⟩ : ∃ A n c, v = .slice A n c := by
        rcases hrk.2.2.1.2 with ⟨e, _⟩ | ⟨g, cap, cur, e, _⟩
        · exact ⟨_, _, _, e⟩
        · exact ⟨_, _, _, e⟩
      subst hve
      have HRk := Lib.hid hrk
      have HXs := Lib.hid hxs
      have HJx := Lib.hid hJx
      have HLr := Lib.hid hLr
      have HBr := Lib.hid hBr
      have hlen : xs.length = k := by
        have := congrArg List.length hxs
        rw [List.length_map, List.length_take, LS.recs_length] at this
        omega
      have HLen := Lib.hid hlen
      have HAt : Hid (L.recs[xs.length]? = some (L.first + k, b)) := by
        rw [Hid, hlen, ← hb]
        simp [LS.recs, List.getElem?_eq_getElem hlt]
      clear hX hxs hJx hLr hBr hown hx hrk hrt hv hat hb hlen
      gi_wp2
      obtain ⟨wA, hA⟩ : ∃ wA, (wr.alloc (.cells #[.slice A2 n2 c2, .int .u64 at_] 99)) = wA := ⟨_, rfl⟩
      have hfA : Fr Nob wr wA := by rw [← hA]; exact (Fr.refl _ wr).alloc _
      have hbA : Blk wA wr.heap.size 99 #[.slice A2 n2 c2, .int .u64 at_] := by rw [← hA]; exact Blk.new _ _ _
      have HJA : Hid (J xs wA) := by rw [← hA]; exact HJ.out _ _ _ _ HJx.out (World.grownBy_alloc _ _ none) (fun r e => by cases e)
      rw [hA]
      clear hA
      have HBA := Lib.hid hbA
      have HLA := Lib.hid (HLr.out.blk.fr hfA (fun h => h))
      have HBB := Lib.hid (HBr.out.fr hfA (fun h => h))
      have hS : Fr Nob wA wA.drew := (Fr.refl _ wA).drew
      have HCl := Lib.hid (cloneRec (w := wA.drew) (own_fr HRk.out.2.2.1 (hfA.trans hS) (fun _ _ h => h)) hsmk)
      have hzA : B ≤ wA.drew.heap.size := by have h1 := hF.out.size; have h2 := hfA.size; have h3 := hS.size; omega
      clear hbA d0 d1 q0 q6
      refine RgI.begin (Fr Nob wA) [11, 12] (by kernel_rfl) ?_
      refine RgI.op 0 (some 15) hS (v := ?v0) (a' := ?a0) (hy := fun wz hwz => ?h0) (ha := ?b0) (h := ?_)
      case h0 => (go_simp; try with_reducible rfl)
      case b0 => (simp only [Act.put, List.setIfInBounds_toArray, List.set_cons_zero, List.set_cons_succ]; rfl)
      refine RgI.op 1 (some 16) hS (v := ?v1) (a' := ?a1) (hy := fun wz hwz => ?h1) (ha := ?b1) (h := ?_)
      case h1 => (have hb := (HBB.out.fr hwz (fun h => h)); have c0 := hb.cell 0; simp only [List.getElem?_toArray, List.getElem?_cons_zero, List.getElem?_cons_succ] at c0; clear hb; go_simp; try with_reducible rfl)
      case b1 => (simp only [Act.put, List.setIfInBounds_toArray, List.set_cons_zero, List.set_cons_succ]; rfl)
      refine RgI.op 2 (some 17) hS (v := ?v2) (a' := ?a2) (hy := fun wz hwz => ?h2) (ha := ?b2) (h := ?_)
      case h2 => (have hb := (HLA.out.fr hwz (fun h => h)); have c3 := hb.cell 3; have hpq := hb.lt; simp only [List.getElem?_toArray, List.getElem?_cons_zero, List.getElem?_cons_succ] at c3; clear hb; go_simp; try with_reducible rfl)
      case b2 => (simp only [Act.put, List.setIfInBounds_toArray, List.set_cons_zero, List.set_cons_succ]; rfl)
      refine RgI.op 3 (some 18) hS (v := ?v3) (a' := ?a3) (hy := fun wz hwz => ?h3) (ha := ?b3) (h := ?_)
      case h3 => (go_simp; try with_reducible rfl)
      case b3 => (simp only [Act.put, List.setIfInBounds_toArray, List.set_cons_zero, List.set_cons_succ]; rfl)
      refine RgI.op 4 (some 19) hS (v := ?v4) (a' := ?a4) (hy := fun wz hwz => ?h4) (ha := ?b4) (h := ?_)
      case h4 => (have hb := (HLA.out.fr hwz (fun h => h)); have c3 := hb.cell 3; have hpq := hb.lt; simp only [List.getElem?_toArray, List.getElem?_cons_zero, List.getElem?_cons_succ] at c3; clear hb; go_simp; try with_reducible rfl)
      case b4 => (simp only [Act.put, List.setIfInBounds_toArray, List.set_cons_zero, List.set_cons_succ]; rfl)
      refine RgI.op 5 (some 20) hS (v := ?v5) (a' := ?a5) (hy := fun wz hwz => ?h5) (ha := ?b5) (h := ?_)
      case h5 => (go_simp; try with_reducible rfl)
      case b5 => (simp only [Act.put, List.setIfInBounds_toArray, List.set_cons_zero, List.set_cons_succ]; rfl)
      refine RgI.op 6 (some 21) hS (v := ?v6) (a' := ?a6) (hy := fun wz hwz => ?h6) (ha := ?b6) (h := ?_)
      case h6 => (have ek : IntKind.u64.wrap (k : Int) = (k : Int) := (by rw [IntKind.wrap_u64]; omega); go_simp; try with_reducible rfl)
      case b6 => (simp only [Act.put, List.setIfInBounds_toArray, List.set_cons_zero, List.set_cons_succ]; rfl)
      refine RgI.op 7 (some 22) hS (v := (.int .u64 ((L.first + k : Nat) : Int))) (a' := ?a7) (hy := fun wz hwz => ?h7) (ha := ?b7) (h := ?_)
      case h7 => (have es : IntKind.u64.wrap ((L.first : Int) + (k : Int)) = ((L.first + k : Nat) : Int) := (by rw [IntKind.wrap_u64]; omega); go_simp; try with_reducible rfl)
      case b7 => (simp only [Act.put, List.setIfInBounds_toArray, List.set_cons_zero, List.set_cons_succ]; rfl)
      refine RgI.op 8 (some 23) hS (v := ?v8) (a' := ?a8) (hy := fun wz hwz => ?h8) (ha := ?b8) (h := ?_)
      case h8 => (go_simp; try with_reducible rfl)
      case b8 => (simp only [Act.put, List.setIfInBounds_toArray, List.set_cons_zero, List.set_cons_succ]; rfl)
      refine RgI.op 9 (some 24) hS (v := ?v9) (a' := ?a9) (hy := fun wz hwz => ?h9) (ha := ?b9) (h := ?_)
      case h9 => (have hb := (HBA.out.fr hwz (fun h => h)); have cr := hb.cell 0; simp only [List.getElem?_toArray, List.getElem?_cons_zero, List.getElem?_cons_succ] at cr; clear hb; go_simp; try with_reducible rfl)
      case b9 => (simp only [Act.put, List.setIfInBounds_toArray, List.set_cons_zero, List.set_cons_succ]; rfl)
      refine RgI.call 10 (some 25) (hrun := ?h10) (hcall := callsIn_wide.2 HCl.out) (h := ?_)
      case h10 => (go_simp)
      rintro e w5 ⟨v5, rfl, ho5, hf5⟩
      have hS5 : Fr Nob wA w5 := hS.trans hf5
      have HO5 : Hid (RecNew B ⟨L.first + k, v5, b⟩ w5) := own_base ho5 (fun g hg => by have := (ho5.lt g hg).1; omega)
      have HJ5 : Hid (J xs w5) := HJ.out _ _ _ _ HJA.out (grown_of_fr hS5) (fun r e => by cases e)
      clear ho5 hf5
      refine ⟨_, ?a10, rfl, ?b10, (fun _ => hS5), ?_⟩
      case b10 => (simp only [Act.put, List.setIfInBounds_toArray, List.set_cons_zero, List.set_cons_succ]; rfl)
      refine RgI.yield 11 (some 26) (hrun := ?h11) (hcall := HY.out xs ⟨L.first + k, v5, b⟩ w5 HJ5.out ⟨HO5.out, HAt.out⟩ (by rw [HLen.out]; exact hlt)) (h := ?_)
      case h11 => (go_simp; rfl)
      rintro e w6 ⟨rfl, hj6, hf6⟩
      refine ⟨_, ?a11, rfl, ?b11, (fun h => absurd (by decide) h), ?_⟩
      case b11 => (simp only [Act.put, List.setIfInBounds_toArray, List.set_cons_zero, List.set_cons_succ]; rfl)
      refine RgI.late 12 (some 27) (v := ?v12) (a' := ?a12) (hrun := ?h12) (ha := ?b12) (h := ?_)
      case h12 => (go_simp; try with_reducible rfl)
      case b12 => (simp only [Act.put, List.setIfInBounds_toArray, List.set_cons_zero, List.set_cons_succ]; rfl)
      refine RgI.done _ (h := ?_)
      gi_wp2
      go_roundw
      case rel => exact ⟨k + 1, by omega, by go_num, ⟨xs ++ [⟨L.first + k, v5, b⟩], by rw [List.map_append, HXs.out, HRt.out]; rfl, hj6⟩, (hF.out.trans ((hfA.trans hS5).mono (fun _ _ h => h.elim))).trans hf6⟩
      case measure => simp [intOf]; omega
    · obtain rfl : k = L.l.length := by omega
      gi_wp2
      go_end0
      obtain ⟨xs, hxs, hJx⟩ := hX.out
      refine ⟨⟨_, rfl⟩, xs, ?_, hJx⟩
      rw [hxs, List.take_of_length_le (by rw [LS.recs_length]; exact Nat.le_refl _)]

/-- All's closure tells the records. -/
theorem All_tells (n : Nat) {w : World} {Bk p d B : Nat} {R M : Nat → Prop} {L : LS} (hB : B ≤ w.heap.size) (hL : LogOk R w p d L) (hM : ∀ b, M b → ¬ R b ∧ b ≠ Bk) (hbk : Blk w Bk 56 #[.pointer (some ⟨p, 0, none⟩)]) (hsm : ∀ x ∈ L.l, x.1.length ≤ 3000000000) (hfirst : L.first + L.l.length < 18446744073709551616) (hll : L.l.length < 4000000000) :
    Tells Fence.wide n Try.prog 67 #[.pointer (some ⟨Bk, 0, none⟩)] encR (Fr M) (fun pre x U => RecNew B x U ∧ L.recs[pre.length]? = some (x.id, x.b)) (fun xs => xs.map (fun x => (x.id, x.b)) = L.recs) L.l.length w := by
  intro l J W hW hJ hY h0
  have hf := Fr.of_below hW
  exact All1_in n l Bk p d R M L B J W hJ hY (Nat.le_trans hB hf.size) (hL.new hf) hM (hbk.fr hf (fun h => h)) hsm hfirst hll h0
end Go.Proofs.Ytieiopeblleheaa
