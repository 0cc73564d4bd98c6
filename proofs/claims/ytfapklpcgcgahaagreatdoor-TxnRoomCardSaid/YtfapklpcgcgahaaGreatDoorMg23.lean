/-
  PoolShelf, Pool6, Pool7, in one text.
-/
import Derived.Shelf.Slices.Delete
import Derived.Test.YtfapklpcgcgahaaGreatDoorMg21
import Derived.Test.YtfapklpcgcgahaaGreatDoorMg22
import Derived.Test.YtfapklpcgcgahaaGreatDoorMg17
/-
  The library's slices.Delete over whole numbers, laid at this dump by the shelf's own print.
-/
namespace Go.Proofs.YtfapklpcgcgahaaGreatDoor
set_option linter.unusedSimpArgs false
set_option linter.unusedVariables false
open Go.Shelf
def delRen : Go.Shelf.Ren := ⟨fun | 23 => 118 | n => n, fun | 22 => 50 | 3 => 3 | 4 => 4 | 0 => 0 | n => n, fun | n => n⟩
theorem delLays : Go.Proofs.Lays2.n23 Tryz.prog delRen := {
  mixed := by kernel_rfl
  f23 := Tryz.func118.trans (congrArg some (by kernel_rfl))
  t0 := Tryz.underlying0
  a0 := Tryz.isAgg0
  z0 := Tryz.sizeOf0
  v0 := Tryz.zeroValue0
  t3 := Tryz.underlying3
  a3 := Tryz.isAgg3
  z3 := Tryz.sizeOf3
  v3 := Tryz.zeroValue3
  t4 := Tryz.underlying4
  a4 := Tryz.isAgg4
  z4 := Tryz.sizeOf4
  v4 := Tryz.zeroValue4
  t22 := Tryz.underlying50
  a22 := Tryz.isAgg50
  z22 := Tryz.sizeOf50
  v22 := Tryz.zeroValue50
  i3 := by kernel_rfl }
open Go.RowKit Go.Lib Go.Sort in
/-- slices.Delete at []int. -/
theorem Delete_lay (blk off cap i j : Nat) (zs : List Int) (w : World) (hH : Holds (Value.int .i64) w blk off zs.toArray) (hcap : zs.length ≤ cap) (hm : cap ≤ 9223372036854775807) (hij : i ≤ j) (hj : j ≤ zs.length) :
    Calls Tryz.prog 118 #[.slice (some ⟨blk, off, none⟩) zs.length cap, .int .i64 i, .int .i64 j] w fun e w' => e = .returned (.slice (some ⟨blk, off, none⟩) (zs.length - (j - i)) cap) ∧ ∃ q, w' = putRow (Value.int .i64) (Sort.ahead w q) blk off (zs.take i ++ zs.drop j ++ List.replicate (j - i) 0).toArray := Any.slices_Delete_int delLays blk off cap i j zs w hH hcap hm hij hj

open Go.RowKit
theorem putRow_blk {w : World} {g : Nat} {t : TypeId} {cur : Array Value} {zs : List Int} (q : Nat) (hb : Blk w g t cur) : Blk (Sort.putRow (Value.int .i64) (Sort.ahead w q) g 0 zs.toArray) g t (Sort.putCells (Value.int .i64) 0 zs.toArray cur) ∧ Fr (fun k => k = g) w (Sort.putRow (Value.int .i64) (Sort.ahead w q) g 0 zs.toArray) := by
  have e : ∀ k, (Sort.putRow (Value.int .i64) (Sort.ahead w q) g 0 zs.toArray).heap[k]? = if g = k then (w.heap[k]?).map (Sort.onCells (Sort.putCells (Value.int .i64) 0 zs.toArray)) else w.heap[k]? := fun k => by
    show (w.heap.modify g _)[k]? = _
    rw [Array.getElem?_modify]
  refine ⟨?_, rfl, rfl, rfl, ?_, fun k _ hk => ?_⟩
  · unfold Blk at hb ⊢
    rw [e, if_pos rfl, hb]; rfl
  · show _ ≤ (w.heap.modify g _).size
    simp
  · rw [e, if_neg (fun h => hk h.symm)]
/-- .. of a row that one has: one element away. -/
theorem Delete_own {w : World} {rv : Value} (zs : List Int) (i : Nat) (ho : w.ownsRow 0 3 1 rv zs.length (zs.map fun z => .int .i64 z)) (hi : i < zs.length) :
    ∃ A c, rv = .slice A zs.length c ∧ Calls Tryz.prog 118 #[.slice A zs.length c, .int .i64 i, .int .i64 (i + 1 : Nat)] w fun e w' => ∃ g cp, e = .returned (.slice (some ⟨g, 0, none⟩) (zs.length - 1) cp) ∧ rv.ownBlock = some g ∧ w'.ownsRow 0 3 1 (.slice (some ⟨g, 0, none⟩) (zs.length - 1) cp) (zs.length - 1) ((zs.eraseIdx i).map fun z => .int .i64 z) ∧ Fr (fun k => some k = rv.ownBlock) w w' := by
  rcases ho.2 with ⟨_, h0⟩ | ⟨g, cap, cur, rfl, _, hb, h1, h2, h3, h4⟩
  · omega
  · refine ⟨_, _, rfl, ?_⟩
    have hb : Blk w g 3 cur := hb
    have hcur : ∀ (j : Nat), j < zs.length → cur[j]? = (zs[j]?).map fun z => Value.int .i64 z := fun j hj => by
      have := congrArg (fun l => l[j]?) h4
      simp only [List.getElem?_take, Nat.mul_one, if_pos hj, Array.getElem?_toList, List.getElem?_map] at this
      exact this
    have hH : Sort.Holds (Value.int .i64) w g 0 zs.toArray := fun j hj => by
      have hj : j < zs.length := by simpa using hj
      refine ⟨?_, hb.frozen _⟩
      rw [Nat.zero_add, hb.cell, hcur j hj, List.getElem?_eq_getElem hj, Option.map_some]
      rw [getElem!_pos zs.toArray j (by simpa using hj)]
      simp
    refine (Delete_lay g 0 cap i (i + 1) zs w hH h1 (by unfold maxLen at h2; omega) (by omega) (by omega)).mono ?_
    rintro e w' ⟨rfl, q, rfl⟩
    obtain ⟨b1, b2⟩ := putRow_blk (zs := zs.take i ++ zs.drop (i + 1) ++ List.replicate (i + 1 - i) 0) q hb
    refine ⟨g, cap, by rw [show zs.length - (i + 1 - i) = zs.length - 1 from by omega], rfl, ⟨by rw [List.length_map, List.length_eraseIdx, if_pos hi, Nat.mul_one], .inr ⟨g, cap, _, rfl, Nat.zero_le _, b1, by omega, h2, ?_, ?_⟩⟩, b2.mono (fun k _ e => by rw [e]; rfl)⟩
    · rw [← h3]; simp [Sort.putCells]
    · refine List.ext_getElem? (fun j => ?_)
      rw [List.getElem?_take, Nat.mul_one, List.getElem?_map]
      by_cases hj : j < zs.length - 1
      · rw [if_pos hj, Array.getElem?_toList]
        unfold Sort.putCells
        rw [Array.getElem?_mapIdx, hcur j (by omega), List.getElem?_eq_getElem (by omega : j < zs.length)]
        have hl : (zs.take i ++ zs.drop (i + 1) ++ List.replicate (i + 1 - i) 0).length = zs.length := by simp; omega
        simp only [Option.map_some]
        rw [if_pos ⟨Nat.zero_le _, by simp only [List.size_toArray, hl]; omega⟩]
        have hjl : j < (zs.eraseIdx i).length := by rw [List.length_eraseIdx, if_pos hi]; exact hj
        rw [List.getElem?_eq_getElem hjl, Option.map_some]
        rw [getElem!_pos _ (j - 0) (by simp only [List.size_toArray, hl]; omega)]
        congr 2
        simp only [List.getElem_toArray, Nat.sub_zero]
        rw [List.getElem_append_left (by simp; omega)]
        have := List.eraseIdx_eq_take_drop_succ zs i
        simp only [this]
      · rw [if_neg hj, List.getElem?_eq_none (by rw [List.length_eraseIdx, if_pos hi]; omega)]; rfl
end Go.Proofs.YtfapklpcgcgahaaGreatDoor

/-
  drop: a page is held no more.
-/
namespace Go.Proofs.YtfapklpcgcgahaaGreatDoor
set_option linter.unusedSimpArgs false
set_option linter.unusedVariables false
open Go.RowKit Go.Maps

def numsOf (fs : List (Nat × Frm)) : List Int := (ksOf fs).map fun k => (k.2 : Int)
theorem nosOf_nums (fs : List (Nat × Frm)) : nosOf fs = (numsOf fs).map fun z => .int .i64 z := by simp [nosOf, numsOf]
theorem numsOf_length (fs : List (Nat × Frm)) : (numsOf fs).length = fs.length := by simp [numsOf, ksOf]
theorem map_eraseIdx' {α β : Type} (g : α → β) (l : List α) (i : Nat) : (l.eraseIdx i).map g = (l.map g).eraseIdx i := by
  induction l generalizing i with
  | nil => rfl
  | cons y l ih => cases i with
    | zero => rfl
    | succ i => simp only [List.eraseIdx_cons_succ, List.map_cons, ih]
theorem numsOf_erase (fs : List (Nat × Frm)) (i : Nat) : numsOf (fs.eraseIdx i) = (numsOf fs).eraseIdx i := by
  unfold numsOf
  rw [ksOf_erase, map_eraseIdx']
theorem numsOf_get {fs : List (Nat × Frm)} {i b : Nat} {m : Frm} (h : fs[i]? = some (b, m)) : (numsOf fs)[i]? = some (m.x.no : Int) := by
  unfold numsOf
  rw [List.getElem?_map, ksOf_of h]; rfl
theorem mapif_zero (w : World) : (zeroValue 127).run Tryz.prog w = .ok (.pointer none) w := by
  first | exact Tryz.zeroValue127 w | (simp [Tryz.zeroValue127]) | (rw [Tryz.zeroValue127])

section
variable {RP RQ : Nat → Prop} {w w9 : World} {p f l B : Nat} {frames hand : Int} {rv rv' : Value} {fs : List (Nat × Frm)}
theorem PoolAt.idx (h : PoolAt RP RQ w p f l frames hand B rv fs) {i b : Nat} {m : Frm} (hi : fs[i]? = some (b, m)) : idxOf (m.x.no : Int) (numsOf fs) = i := by
  have hl : i < (numsOf fs).length := by rw [numsOf_length]; exact (List.getElem?_eq_some_iff.1 hi).1
  have hg := numsOf_get hi
  rw [List.getElem?_eq_getElem hl] at hg
  injection hg with hg
  refine idxOf_at hl hg.symm (fun j hj e => ?_)
  have hjl : j < fs.length := by have := (List.getElem?_eq_some_iff.1 hi).1; omega
  have hj2 := numsOf_get (fs := fs) (i := j) (b := fs[j].1) (m := fs[j].2) (List.getElem?_eq_getElem hjl)
  rw [List.getElem?_eq_getElem (by rw [numsOf_length]; exact hjl)] at hj2
  injection hj2 with hj2
  have := h.apart hi (List.getElem?_eq_getElem hjl) (by show m.x.no = fs[j].2.x.no; omega)
  omega
theorem RoundIn.own {A : Option Addr} {n c : Nat} {zs : List Int} (ho : w.ownsRow 0 3 1 (.slice A n c) n (zs.map fun z => .int .i64 z)) : RoundIn w A zs := by
  intro h0
  have hl := ho.1
  rw [List.length_map] at hl
  rcases ho.2 with ⟨e, e2⟩ | ⟨g, cap, cur, e, _, hb, h1, h2, h3, h4⟩
  · omega
  · injection e with e1 e2 e3
    subst e1
    refine ⟨g, 0, rfl, fun j x hx => ?_⟩
    have hj := (List.getElem?_eq_some_iff.1 hx).1
    have hb : Blk w g 3 cur := hb
    rw [Nat.zero_add, hb.cell]
    have := congrArg (fun l => l[j]?) h4
    simp only [List.getElem?_take, Nat.mul_one, Array.getElem?_toList, List.getElem?_map, hx, Option.map_some] at this
    rwa [if_pos (by omega)] at this
/-- What drop leaves. -/
theorem PoolAt.dropped (h : PoolAt RP RQ w p f l frames hand B rv fs) {i b : Nat} {m : Frm} (hi : fs[i]? = some (b, m))
    (h9 : Fr (fun b => b = p ∨ b = B ∨ some b = rv.ownBlock) w w9)
    (hb : Blk w9 p 115 #[.pointer (some ⟨f, 0, none⟩), .pointer (some ⟨l, 0, none⟩), .int .i64 frames, .map (some B), rv', .int .i64 hand])
    (hm : FrMap w9 Tryz.prog 3 B (fs.length - 1) (upd (heldAt (ksOf fs)) m.x.no none))
    (ho : w9.ownsRow 0 3 1 rv' (fs.length - 1) (((numsOf fs).eraseIdx i).map fun z => .int .i64 z))
    (ha : rv.ownBlock = rv'.ownBlock) :
    PoolAt RP RQ w9 p f l frames hand B rv' (fs.eraseIdx i) := by
  have hil := (List.getElem?_eq_some_iff.1 hi).1
  have hlen : (fs.eraseIdx i).length = fs.length - 1 := by rw [List.length_eraseIdx, if_pos hil]
  have hcl : ∀ b, (b = p ∨ b = B ∨ some b = rv.ownBlock) → RP b := fun b hb => by
    rcases hb with rfl | rfl | hb
    · exact h.rp
    · exact h.rB
    · exact h.rA b hb.symm
  exact { h with
    blk := hb
    map := by rw [hlen, ksOf_erase, heldAt_erase h.dis (ksOf_of hi)]; exact hm
    rnd := by rw [hlen, nosOf_nums, numsOf_erase]; exact ho
    frm := fun y hy => by
      have hy := List.mem_of_mem_eraseIdx hy
      refine (h.frm y hy).fr h9 (fun e => ?_) (fun k hk e => h.ap k (hcl k e) hk)
      obtain ⟨cs, hcs⟩ := (h.frm y hy).blk
      rcases e with e | e | e
      · exact Blk.ne_ h.blk hcs (by decide) e.symm
      · exact h.map.blk_ne hcs e
      · exact own_ne_of h.rnd e.symm hcs (by decide) rfl
    dis := by rw [ksOf_erase, map_eraseIdx']; exact (List.eraseIdx_sublist ..).nodup h.dis
    rA := fun g hg => h.rA g (ha.trans hg)
    lt := fun b hb => Nat.lt_of_lt_of_le (h.lt b hb) h9.size
    ltq := fun b hb => Nat.lt_of_lt_of_le (h.ltq b hb) h9.size
    len := by have := h.len; rw [hlen]; omega }

set_option maxHeartbeats 1600000 in
set_option maxRecDepth 100000 in
theorem drop_any (h : PoolAt RP RQ w p f l frames hand B rv fs) {i b : Nat} {m : Frm} (hi : fs[i]? = some (b, m)) (hno : m.x.no < 100000) :
    Calls Tryz.prog 84 #[.pointer (some ⟨p, 0, none⟩), .int .i64 m.x.no] w fun e w' => e = .returned (.tuple #[]) ∧ ∃ rv', PoolAt RP RQ w' p f l frames hand B rv' (fs.eraseIdx i) ∧ Fr (fun b => b = p ∨ b = B ∨ some b = rv.ownBlock) w w' := by
  have H := Lib.hid h
  have HI := Lib.hid hi
  have hil := (List.getElem?_eq_some_iff.1 hi).1
  have hf64 := h.f1
  have hfl := h.len
  have HIx := Lib.hid (h.idx hi)
  have HMap := Lib.hid h.map
  have HHeld : Hid (heldAt (ksOf fs) (m.x.no : Int) = some b) := heldAt_at h.dis (ksOf_of hi)
  obtain ⟨n, hn⟩ : ∃ n, fs.length = n := ⟨_, rfl⟩
  have HNl := Lib.hid hn
  rw [hn] at hil hfl
  have hro := h.rnd
  rw [hn] at hro
  obtain ⟨g, cap, erv, _⟩ := hro.form (by omega)
  have HErv := Lib.hid erv
  have HNp : Hid (¬ some p = rv.ownBlock) := fun e => own_ne_of h.rnd e.symm h.blk (by decide) rfl
  have c3 := h.blk.cell 3
  have z0 := h.blk.lt
  simp only [List.getElem?_toArray, List.getElem?_cons_zero, List.getElem?_cons_succ] at c3
  have HStep : Hid (∀ w1, w.mapTurned w1 B → Hid (Fr (fun k => k = B) w w1) ∧ Hid (Blk w1 p 115 #[.pointer (some ⟨f, 0, none⟩), .pointer (some ⟨l, 0, none⟩), .int .i64 frames, .map (some B), rv, .int .i64 hand]) ∧ p < w1.heap.size ∧ w1.cell? ⟨p, 4, none⟩ = some (.slice (some ⟨g, 0, none⟩) n cap)) := by
    intro w1 ht
    have hf : Fr (fun k => k = B) w w1 := fr_of_grown ht.grown
    have hb := h.blk.fr hf (fun e => h.map.blk_ne h.blk e)
    refine ⟨hf, hb, hb.lt, ?_⟩
    rw [← erv]
    exact hb.cell 4
  clear h hi hn hro erv
  go_enter Tryz.func84, Tryz.ntmps84
  go_wp2_with (with_reducible refine wpList_fr_del _ rfl _ _ _ _ rfl _ key_law Tryz.underlying113 B _ _ rfl HMap.out (m.x.no : Int) rfl (key_of _ (by omega) (by omega)) HHeld.out ?_; intro w1 hm1 ht1; have HM1 := Lib.hid hm1; obtain ⟨HF1, HB1, z1, c4⟩ := HStep.out w1 ht1; clear hm1 ht1)
  have HO1 : Hid (w1.ownsRow 0 3 1 rv fs.length ((numsOf fs).map fun z => .int .i64 z)) := by
    rw [← nosOf_nums]
    exact own_fr H.out.rnd HF1.out (fun g hg e => own_ne_map H.out.rnd hg H.out.map e)
  have HRi : Hid (RoundIn w1 (some ⟨g, 0, none⟩) (numsOf fs)) := RoundIn.own (c := cap) (n := n) (by have := HO1.out; rw [HErv.out, HNl.out] at this; exact this)
  have HIxC := Lib.hid (Index_any (some ⟨g, 0, none⟩) cap n (numsOf fs) (m.x.no : Int) w1 HRi.out (by rw [numsOf_length, HNl.out]) (by rw [numsOf_length, HNl.out]; omega))
  rw [HIx.out] at HIxC
  refine HIxC.out.mono ?_
  rintro e w2 ⟨rfl, rfl⟩
  clear HIxC HRi
  have t1 : ¬ (i : Int) < 0 := by omega
  have t2 : (0 : Int) ≤ (i : Int) := by omega
  have u1 : IntKind.i64.wrap ((i : Int) + 1) = (i : Int) + 1 := by rw [IntKind.wrap_i64]; omega
  go_wp2_with fail
  obtain ⟨A, c, e1, hdel⟩ := Delete_own (w := w1) (rv := rv) (numsOf fs) i (by have := HO1.out; rw [numsOf_length]; exact this) (by rw [numsOf_length, HNl.out]; exact hil)
  rw [numsOf_length, HNl.out] at e1 hdel
  rw [HErv.out] at e1
  injection e1 with e1 e2 e3
  subst e1 e3
  rw [show ((i + 1 : Nat) : Int) = (i : Int) + 1 from by omega] at hdel
  refine hdel.mono ?_
  rintro e w2 ⟨g2, cp2, rfl, e4, ho2, hf2⟩
  have hb2 := HB1.out.fr hf2 HNp.out
  have HB2 := Lib.hid hb2
  have HO2 := Lib.hid ho2
  have HF2 := Lib.hid hf2
  have HE4 := Lib.hid e4
  have k4 := hb2.cell 4
  have q4 := hb2.frozen 4
  have z2 := hb2.lt
  simp only [List.getElem?_toArray, List.getElem?_cons_zero, List.getElem?_cons_succ] at k4
  clear hdel e2 e4 ho2 hf2 hb2 c4
  go_wp2
  go_end0
  have hF9 : Fr (fun k => k = p) w2 (w2.setCell ⟨p, 4, none⟩ (.slice (some ⟨g2, 0, none⟩) (n - 1) cp2)) := (Fr.refl (fun k => k = p) w2).setCell (p := ⟨p, 4, none⟩) (.inr rfl) _
  have hF : Fr (fun b => b = p ∨ b = B ∨ some b = rv.ownBlock) w (w2.setCell ⟨p, 4, none⟩ (.slice (some ⟨g2, 0, none⟩) (n - 1) cp2)) :=
    ((HF1.out.mono (fun _ _ e => .inr (.inl e)) : Fr (fun b => b = p ∨ b = B ∨ some b = rv.ownBlock) w w1).step HF2.out (fun _ _ e => .inr (.inr e))).step hF9 (fun _ _ e => .inl e)
  have hpB : p ≠ B := H.out.map.blk_ne H.out.blk
  have hBo : ¬ some B = rv.ownBlock := fun e => own_ne_map H.out.rnd e.symm H.out.map rfl
  refine ⟨rfl, .slice (some ⟨g2, 0, none⟩) (n - 1) cp2, H.out.dropped HI.out hF (HB2.out.set_ 4 _) ((HM1.out.fr HF2.out hBo).fr hF9 (fun e => hpB e.symm)) ?_ HE4.out, hF⟩
  rw [HNl.out]
  exact own_fr HO2.out hF9 (fun g' hg' e => by
    have hg' : g2 = g' := by simpa [Value.ownBlock] using hg'
    exact HNp.out (by rw [HE4.out, hg', e]))
end
end Go.Proofs.YtfapklpcgcgahaaGreatDoor

/-
  victim: the page that is evicted next.
-/
namespace Go.Proofs.YtfapklpcgcgahaaGreatDoor
set_option linter.unusedSimpArgs false
set_option linter.unusedVariables false
open Go.RowKit Go.Maps

/-- Frames that differ in what was used alone. -/
def SameUsed (fs gs : List (Nat × Frm)) : Prop := gs.length = fs.length ∧ ∀ (i : Nat) y, gs[i]? = some y → ∃ z, fs[i]? = some z ∧ z.1 = y.1 ∧ z.2.x = y.2.x ∧ z.2.dirty = y.2.dirty
theorem SameUsed.refl (fs : List (Nat × Frm)) : SameUsed fs fs := ⟨rfl, fun i y h => ⟨y, h, rfl, rfl, rfl⟩⟩
theorem SameUsed.set {fs gs : List (Nat × Frm)} (h : SameUsed fs gs) {i b : Nat} {m : Frm} (hi : gs[i]? = some (b, m)) (u : Bool) : SameUsed fs (gs.set i (b, { m with used := u })) := by
  refine ⟨by rw [List.length_set]; exact h.1, fun j y hj => ?_⟩
  rw [List.getElem?_set] at hj
  split at hj
  · rename_i e
    subst e
    split at hj
    · injection hj with hj
      subst hj
      obtain ⟨z, h1, h2, h3, h4⟩ := h.2 i _ hi
      exact ⟨z, h1, h2, h3, h4⟩
    · cases hj
  · exact h.2 j y hj
theorem Views.same {fs gs : List (Nat × Frm)} {cur : Nat → Option PgV} {pages : Nat} {V : Nat → PgV} (h : Views fs cur pages V) (hs : SameUsed fs gs) : Views gs cur pages V := by
  have hm : ∀ y ∈ gs, ∃ z ∈ fs, z.2.x = y.2.x ∧ z.2.dirty = y.2.dirty := fun y hy => by
    obtain ⟨i, hi⟩ := List.mem_iff_getElem?.1 hy
    obtain ⟨z, h1, _, h2, h3⟩ := hs.2 i y hi
    exact ⟨z, List.mem_of_getElem? h1, h2, h3⟩
  refine ⟨fun y hy => ?_, fun y hy => ?_, fun no hno hc => h.file no hno (fun y hy he => ?_)⟩
  · obtain ⟨z, hz, e, _⟩ := hm y hy; rw [← e]; exact h.ok z hz
  · obtain ⟨z, hz, e, _⟩ := hm y hy; rw [← e]; exact h.held z hz
  · obtain ⟨i, hi⟩ := List.mem_iff_getElem?.1 hy
    have hil := (List.getElem?_eq_some_iff.1 hi).1
    obtain ⟨y', hg⟩ : ∃ y', gs[i]? = some y' := ⟨_, List.getElem?_eq_getElem (by rw [hs.1]; exact hil)⟩
    obtain ⟨z, h1, _, h2, h3⟩ := hs.2 i _ hg
    rw [hi] at h1
    injection h1 with h1
    subst h1
    rw [h3]
    exact hc _ (List.mem_of_getElem? hg) (by rw [← h2]; exact he)
/-- How many are marked as used. -/
def isT : Option Value → Nat
  | some (.bool true) => 1
  | _ => 0
def usedCnt (fs : List (Nat × Frm)) (w : World) : Nat := (fs.map fun y => isT (w.cell? ⟨y.1, 4, none⟩)).sum
theorem sum_lt {α : Type} (l : List α) (f g : α → Nat) (hle : ∀ y ∈ l, f y ≤ g y) {y0 : α} (h0 : y0 ∈ l) (hlt : f y0 < g y0) : (l.map f).sum < (l.map g).sum := by
  induction l with
  | nil => simp at h0
  | cons y l ih =>
    simp only [List.map_cons, List.sum_cons]
    have hle' : ∀ z ∈ l, f z ≤ g z := fun z hz => hle z (List.mem_cons_of_mem _ hz)
    have hsum : (l.map f).sum ≤ (l.map g).sum := by
      clear ih h0 hle
      induction l with
      | nil => simp
      | cons z l ih2 =>
        simp only [List.map_cons, List.sum_cons]
        have h1 := hle' z (List.mem_cons_self ..)
        have h2 := ih2 (fun x hx => hle' x (List.mem_cons_of_mem _ hx))
        omega
    rcases List.mem_cons.1 h0 with rfl | h0
    · omega
    · have h1 := hle y (List.mem_cons_self ..)
      have h2 := ih hle' h0
      omega
section
variable {RP RQ : Nat → Prop} {w : World} {p f l B : Nat} {frames hand : Int} {rv : Value} {fs : List (Nat × Frm)}
set_option maxHeartbeats 6400000 in
set_option maxRecDepth 100000 in
theorem victim_any (h : PoolAt RP RQ w p f l frames hand B rv fs) (hpos : 0 < fs.length) (hok : ∀ y ∈ fs, y.2.x.no < 100000) :
    Calls Tryz.prog 112 #[.pointer (some ⟨p, 0, none⟩)] w fun e w' => ∃ (i b : Nat) (m : Frm) (gs : List (Nat × Frm)) (hand' : Int), e = .returned (.int .i64 m.x.no) ∧ gs[i]? = some (b, m) ∧ PoolAt RP RQ w' p f l frames hand' B rv gs ∧ SameUsed fs gs ∧ Fr RP w w' := by
  have qL := len_round
  have H := Lib.hid h
  have HOk := Lib.hid hok
  have hf64 := h.f1
  have hfl := h.len
  obtain ⟨n, hn⟩ : ∃ n, fs.length = n := ⟨_, rfl⟩
  have HNl := Lib.hid hn
  rw [hn] at hpos hfl
  have hro := h.rnd
  rw [hn] at hro
  obtain ⟨g, cap, erv, _⟩ := hro.form (by omega)
  have HErv := Lib.hid erv
  clear h hok hn hro erv
  go_enter Tryz.func112, Tryz.ntmps112
  go_wp2
  go_step3
  go_wp2
  try go_step3
  try go_wp2
  go_loopw [4] (fun xv wr => Hid (∃ gs hand', PoolAt RP RQ wr p f l frames hand' B rv gs ∧ SameUsed fs gs ∧ Fr RP w wr)) (fun _ wr => usedCnt fs wr)
  case atStart => exact ⟨fs, hand, H.out, SameUsed.refl fs, Fr.refl _ _⟩
  case round =>
    obtain ⟨gs, hd, hP, hsu, hF⟩ := hrel.out
    clear hrel
    have HSu := Lib.hid hsu
    have HF := Lib.hid hF
    have HP := Lib.hid hP
    have h0 := hP.h0
    have h64 := hP.h1
    have hgl : gs.length = n := by rw [hsu.1, HNl.out]
    obtain ⟨k, hk⟩ : ∃ k : Nat, (k : Int) = hd % (n : Int) := ⟨(hd % (n : Int)).toNat, by have := Int.emod_nonneg hd (show (n : Int) ≠ 0 by omega); omega⟩
    have k1' : k < n := by have := Int.emod_lt_of_pos hd (show (0 : Int) < n by omega); omega
    have e1 : Int.tmod hd (n : Int) = (k : Int) := by rw [Int.tmod_eq_emod_of_nonneg h0, hk]
    have hn0 : ¬ (n : Int) = 0 := by omega
    have hn0' : ¬ n = 0 := by omega
    have k0 : (0 : Int) ≤ (k : Int) := by omega
    have k1 : (k : Int) < (n : Int) := by omega
    have c5 := hP.blk.cell 5
    have c4 := hP.blk.cell 4
    have q5 := hP.blk.frozen 5
    have z0 := hP.blk.lt
    simp only [List.getElem?_toArray, List.getElem?_cons_zero, List.getElem?_cons_succ] at c4 c5
    rw [HErv.out] at c4
    obtain ⟨y, hy⟩ : ∃ y, gs[k]? = some y := ⟨_, List.getElem?_eq_getElem (by rw [hgl]; exact k1')⟩
    obtain ⟨b, m⟩ := y
    have hmno : m.x.no < 100000 := by
      obtain ⟨z, z1, _, z2, _⟩ := hsu.2 k _ hy
      have := HOk.out z (List.mem_of_getElem? z1)
      rw [z2] at this
      exact this
    have HY := Lib.hid hy
    have HHeld : Hid (heldAt (ksOf gs) (m.x.no : Int) = some b) := heldAt_at hP.dis (ksOf_of hy)
    have hP1 : PoolAt RP RQ ((wr.setCell ⟨p, 5, none⟩ (.int .i64 k)).drew) p f l frames k B rv gs := (hP.hand_ (k : Int) k0 (by omega)).new ((Fr.refl _ _).drew)
    have hF1 : Fr RP w ((wr.setCell ⟨p, 5, none⟩ (.int .i64 k)).drew) := ((hF.setCell (p := ⟨p, 5, none⟩) (.inr hP.rp) _).drew)
    have hfc : ∀ z ∈ fs, ((wr.setCell ⟨p, 5, none⟩ (.int .i64 k)).drew).cell? ⟨z.1, 4, none⟩ = wr.cell? ⟨z.1, 4, none⟩ := fun z hz => by
      obtain ⟨i, hi⟩ := List.mem_iff_getElem?.1 hz
      have hil := (List.getElem?_eq_some_iff.1 hi).1
      obtain ⟨y', hg⟩ : ∃ y', gs[i]? = some y' := ⟨_, List.getElem?_eq_getElem (by rw [hsu.1]; exact hil)⟩
      obtain ⟨z', h1, h2, _⟩ := hsu.2 i _ hg
      rw [hi] at h1
      injection h1 with h1
      subst h1
      obtain ⟨cs, hcs⟩ := (hP.frm _ (List.mem_of_getElem? hg)).blk
      rw [← h2] at hcs
      have hb2 := (hcs.far (p := ⟨p, 5, none⟩) (fun e => Blk.ne_ hP.blk hcs (by decide) e.symm) (.int .i64 k)).drew
      rw [hb2.cell, hcs.cell]
    have HFc := Lib.hid hfc
    clear hP hsu hF hy hfc hgl hk h0
    go_wp2
    have hS : Fr Nob wr wr.drew := (Fr.refl _ wr).drew
    refine Rg.begin (Fr Nob wr) [12] (by kernel_rfl) ?_
    refine Rg.op 0 (some 5) hS (v := ?v0a) (hy := fun wz hwz => ?h0a) (h := ?_)
    case h0a => (go_simp; try with_reducible rfl)
    refine Rg.op 1 (some 6) hS (v := ?v1a) (hy := fun wz hwz => ?h1a) (h := ?_)
    case h1a => (have hpp := Nat.lt_of_lt_of_le z0 hwz.size; go_simp; try with_reducible rfl)
    refine Rg.op 2 (some 7) hS (v := ?v2a) (hy := fun wz hwz => ?h2a) (h := ?_)
    case h2a => (go_simp; try with_reducible rfl)
    refine Rg.op 3 (some 8) hS (v := (.int .i64 hd)) (hy := fun wz hwz => ?h3a) (h := ?_)
    case h3a => (have cx := (hwz.cell (p := ⟨p, 5, none⟩) z0 (fun h => h)).trans c5; have hpp := Nat.lt_of_lt_of_le z0 hwz.size; go_simp; try with_reducible rfl)
    refine Rg.op 4 (some 9) hS (v := ?v4a) (hy := fun wz hwz => ?h4a) (h := ?_)
    case h4a => (go_simp; try with_reducible rfl)
    refine Rg.op 5 (some 10) hS (v := ?v5a) (hy := fun wz hwz => ?h5a) (h := ?_)
    case h5a => (have hpp := Nat.lt_of_lt_of_le z0 hwz.size; go_simp; try with_reducible rfl)
    refine Rg.op 6 (some 11) hS (v := ?v6a) (hy := fun wz hwz => ?h6a) (h := ?_)
    case h6a => (go_simp; try with_reducible rfl)
    refine Rg.op 7 (some 12) hS (v := (.slice (some ⟨g, 0, none⟩) n cap)) (hy := fun wz hwz => ?h7a) (h := ?_)
    case h7a => (have cx := (hwz.cell (p := ⟨p, 4, none⟩) z0 (fun h => h)).trans c4; have hpp := Nat.lt_of_lt_of_le z0 hwz.size; go_simp; try with_reducible rfl)
    refine Rg.op 8 (some 13) hS (v := (.int .i64 n)) (hy := fun wz hwz => ?h8a) (h := ?_)
    case h8a => (have hq := qL; go_simp; try with_reducible rfl)
    refine Rg.op 9 (some 14) hS (v := (.int .i64 k)) (hy := fun wz hwz => ?h9a) (h := ?_)
    case h9a => (have hq := e1; have hq2 := hn0'; go_simp; try with_reducible rfl)
    refine Rg.op 10 (some 15) hS (v := ?v10a) (hy := fun wz hwz => ?h10a) (h := ?_)
    case h10a => (have hpp := Nat.lt_of_lt_of_le z0 hwz.size; go_simp; try with_reducible rfl)
    refine Rg.op 11 (some 16) hS (v := ?v11a) (hy := fun wz hwz => ?h11a) (h := ?_)
    case h11a => (go_simp; try with_reducible rfl)
    have hpp : p < wr.drew.heap.size := z0
    have b5 : wr.drew.cell? ⟨p, 5, none⟩ = some (.int .i64 hd) := c5
    have q5x : wr.drew.frozen? ⟨p, 5, none⟩ = false := q5
    refine Rg.store 12 (w' := ?w12a) (hrun := ?h12a) (hS := (fun h => absurd (by decide) h)) (h := ?_)
    case h12a => (go_simp; try with_reducible rfl)
    refine Rg.done _ (h := ?_)
    generalize hW1 : (wr.setCell ⟨p, 5, none⟩ (.int .i64 k)).drew = w1 at *
    have HP1 := Lib.hid hP1
    have HF1 := Lib.hid hF1
    have d3 := hP1.blk.cell 3
    have d4 := hP1.blk.cell 4
    have d5 := hP1.blk.cell 5
    have dq5 := hP1.blk.frozen 5
    have z1 := hP1.blk.lt
    have HMap1 := Lib.hid hP1.map
    simp only [List.getElem?_toArray, List.getElem?_cons_zero, List.getElem?_cons_succ] at d3 d4 d5
    rw [HErv.out] at d4
    have hgl : gs.length = n := by rw [HSu.out.1, HNl.out]
    obtain ⟨dg, zg⟩ : w1.cell? ⟨g, k, none⟩ = some (.int .i64 m.x.no) ∧ g < w1.heap.size := by
      have ho := hP1.rnd
      rw [nosOf_nums, hgl, HErv.out] at ho
      obtain ⟨g', o', e, hc⟩ := (RoundIn.own ho) (by rw [numsOf_length]; omega)
      injection e with e
      injection e with e2 e3
      subst e2 e3
      have := hc k _ (numsOf_get HY.out)
      rw [Nat.zero_add] at this
      exact ⟨this, cell_lt this⟩
    obtain ⟨kb, ko, cc, _, hfb, _⟩ := (hP1.frm _ (List.mem_of_getElem? HY.out)).2
    have HFb := Lib.hid hfb
    have fb4 := hfb.cell 4
    have fq4 := hfb.frozen 4
    have fz := hfb.lt
    simp only [List.getElem?_toArray, List.getElem?_cons_zero, List.getElem?_cons_succ] at fb4
    clear hP1 hF1 c4 c5 q5 z0 hS hW1 hfb hgl
    go_wp2
    have hT : Fr Nob w1 w1.drew := (Fr.refl _ w1).drew
    refine Rg.begin (Fr Nob w1) [] (by kernel_rfl) ?_
    refine Rg.op 0 (some 17) hT (v := ?v0b) (hy := fun wz hwz => ?h0b) (h := ?_)
    case h0b => (go_simp; try with_reducible rfl)
    refine Rg.op 1 (some 18) hT (v := ?v1b) (hy := fun wz hwz => ?h1b) (h := ?_)
    case h1b => (have hpp := Nat.lt_of_lt_of_le z1 hwz.size; go_simp; try with_reducible rfl)
    refine Rg.op 2 (some 19) hT (v := ?v2b) (hy := fun wz hwz => ?h2b) (h := ?_)
    case h2b => (go_simp; try with_reducible rfl)
    refine Rg.op 3 (some 20) hT (v := (.map (some B))) (hy := fun wz hwz => ?h3b) (h := ?_)
    case h3b => (have cx := (hwz.cell (p := ⟨p, 3, none⟩) z1 (fun h => h)).trans d3; have hpp := Nat.lt_of_lt_of_le z1 hwz.size; go_simp; try with_reducible rfl)
    refine Rg.op 4 (some 21) hT (v := ?v4b) (hy := fun wz hwz => ?h4b) (h := ?_)
    case h4b => (go_simp; try with_reducible rfl)
    refine Rg.op 5 (some 22) hT (v := ?v5b) (hy := fun wz hwz => ?h5b) (h := ?_)
    case h5b => (have hpp := Nat.lt_of_lt_of_le z1 hwz.size; go_simp; try with_reducible rfl)
    refine Rg.op 6 (some 23) hT (v := ?v6b) (hy := fun wz hwz => ?h6b) (h := ?_)
    case h6b => (go_simp; try with_reducible rfl)
    refine Rg.op 7 (some 24) hT (v := (.slice (some ⟨g, 0, none⟩) n cap)) (hy := fun wz hwz => ?h7b) (h := ?_)
    case h7b => (have cx := (hwz.cell (p := ⟨p, 4, none⟩) z1 (fun h => h)).trans d4; have hpp := Nat.lt_of_lt_of_le z1 hwz.size; go_simp; try with_reducible rfl)
    refine Rg.op 8 (some 25) hT (v := ?v8b) (hy := fun wz hwz => ?h8b) (h := ?_)
    case h8b => (go_simp; try with_reducible rfl)
    refine Rg.op 9 (some 26) hT (v := ?v9b) (hy := fun wz hwz => ?h9b) (h := ?_)
    case h9b => (have hpp := Nat.lt_of_lt_of_le z1 hwz.size; go_simp; try with_reducible rfl)
    refine Rg.op 10 (some 27) hT (v := ?v10b) (hy := fun wz hwz => ?h10b) (h := ?_)
    case h10b => (go_simp; try with_reducible rfl)
    refine Rg.op 11 (some 28) hT (v := (.int .i64 k)) (hy := fun wz hwz => ?h11b) (h := ?_)
    case h11b => (have cx := (hwz.cell (p := ⟨p, 5, none⟩) z1 (fun h => h)).trans d5; have hpp := Nat.lt_of_lt_of_le z1 hwz.size; go_simp; try with_reducible rfl)
    refine Rg.op 12 (some 29) hT (v := (.pointer (some ⟨g, k, none⟩))) (hy := fun wz hwz => ?h12b) (h := ?_)
    case h12b => (have hk1 := k1; have hk0 := k0; go_simp; try with_reducible rfl)
    refine Rg.op 13 (some 30) hT (v := (.int .i64 m.x.no)) (hy := fun wz hwz => ?h13b) (h := ?_)
    case h13b => (have cx := (hwz.cell (p := ⟨g, k, none⟩) zg (fun h => h)).trans dg; have hpp := Nat.lt_of_lt_of_le zg hwz.size; go_simp; try with_reducible rfl)
    refine Rg.op 14 (some 31) hT (v := (.pointer (some ⟨b, 0, none⟩))) (hy := fun wz hwz => ?h14b) (h := ?_)
    case h14b => (have hq := (HMap1.out.fr hwz (fun h => h)).run_get key_law Tryz.underlying113 (mapif_zero _) (m.x.no : Int) (key_of _ (by omega) (by omega)); rw [HHeld.out] at hq; have hq : (Instr.lookup 113 (.map (some B)) (.int .i64 m.x.no) false).run Tryz.prog wz = .ok (.pointer (some ⟨b, 0, none⟩)) wz := hq; go_simp; rfl)
    refine Rg.op 15 (some 4) hT (v := ?v15b) (hy := fun wz hwz => ?h15b) (h := ?_)
    case h15b => (go_simp; try with_reducible rfl)
    refine Rg.done _ (h := ?_)
    cases hu : m.used
    · have HU := Lib.hid hu
      rw [hu] at fb4
      clear hu
      go_wp2
      have hT5 : Fr Nob w1 w1.drew.drew := ((Fr.refl _ w1).drew).drew
      refine Rg.begin (Fr Nob w1) [] (by kernel_rfl) ?_
      refine Rg.op 0 (some 37) hT5 (v := ?v0c) (hy := fun wz hwz => ?h0c) (h := ?_)
      case h0c => (go_simp; try with_reducible rfl)
      refine Rg.op 1 (some 38) hT5 (v := ?v1c) (hy := fun wz hwz => ?h1c) (h := ?_)
      case h1c => (have hpp := Nat.lt_of_lt_of_le z1 hwz.size; go_simp; try with_reducible rfl)
      refine Rg.op 2 (some 39) hT5 (v := ?v2c) (hy := fun wz hwz => ?h2c) (h := ?_)
      case h2c => (go_simp; try with_reducible rfl)
      refine Rg.op 3 (some 40) hT5 (v := (.slice (some ⟨g, 0, none⟩) n cap)) (hy := fun wz hwz => ?h3c) (h := ?_)
      case h3c => (have cx := (hwz.cell (p := ⟨p, 4, none⟩) z1 (fun h => h)).trans d4; have hpp := Nat.lt_of_lt_of_le z1 hwz.size; go_simp; try with_reducible rfl)
      refine Rg.op 4 (some 41) hT5 (v := ?v4c) (hy := fun wz hwz => ?h4c) (h := ?_)
      case h4c => (go_simp; try with_reducible rfl)
      refine Rg.op 5 (some 42) hT5 (v := ?v5c) (hy := fun wz hwz => ?h5c) (h := ?_)
      case h5c => (have hpp := Nat.lt_of_lt_of_le z1 hwz.size; go_simp; try with_reducible rfl)
      refine Rg.op 6 (some 43) hT5 (v := ?v6c) (hy := fun wz hwz => ?h6c) (h := ?_)
      case h6c => (go_simp; try with_reducible rfl)
      refine Rg.op 7 (some 44) hT5 (v := (.int .i64 k)) (hy := fun wz hwz => ?h7c) (h := ?_)
      case h7c => (have cx := (hwz.cell (p := ⟨p, 5, none⟩) z1 (fun h => h)).trans d5; have hpp := Nat.lt_of_lt_of_le z1 hwz.size; go_simp; try with_reducible rfl)
      refine Rg.op 8 (some 45) hT5 (v := (.pointer (some ⟨g, k, none⟩))) (hy := fun wz hwz => ?h8c) (h := ?_)
      case h8c => (have hk1 := k1; have hk0 := k0; go_simp; try with_reducible rfl)
      refine Rg.op 9 (some 46) hT5 (v := (.int .i64 m.x.no)) (hy := fun wz hwz => ?h9c) (h := ?_)
      case h9c => (have cx := (hwz.cell (p := ⟨g, k, none⟩) zg (fun h => h)).trans dg; have hpp := Nat.lt_of_lt_of_le zg hwz.size; go_simp; try with_reducible rfl)
      refine Rg.op 10 (some 3) hT5 (v := ?v10c) (hy := fun wz hwz => ?h10c) (h := ?_)
      case h10c => (go_simp; try with_reducible rfl)
      refine Rg.done _ (h := ?_)
      go_wp2
      try rw [Exit.noGoto_ret]
      go_ret
      exact ⟨k, b, m, gs, (k : Int), rfl, HY.out, HP1.out.new hT5, HSu.out, (HF1.out.drew).drew⟩
    · have HU := Lib.hid hu
      rw [hu] at fb4
      clear hu
      go_wp2
      have hfr := HP1.out.frm _ (List.mem_of_getElem? HY.out)
      obtain ⟨r1, kb', ko', cc', r2, r3, r4⟩ := hfr
      have hfs : Fr (fun x => x = b) w1 (w1.setCell ⟨b, 4, none⟩ (.bool false)) := (Fr.refl (fun x => x = b) w1).setCell (p := ⟨b, 4, none⟩) (.inr rfl) _
      have hm' : FrmAt RP RQ (w1.setCell ⟨b, 4, none⟩ (.bool false)) b { m with used := false } := ⟨r1, kb', ko', cc', r2, r3.set_ 4 _, r4.fr hfs (fun a ha e => by injection ha with ha; subst ha; exact HP1.out.ap b r1 (e ▸ r2))⟩
      go_roundw
      case rel => exact ⟨gs.set k (b, { m with used := false }), (k : Int) + 1, ((HP1.out.setF (m' := { m with used := false }) HY.out hfs rfl hm').hand_ ((k : Int) + 1) (by omega) (by omega)).new ((Fr.refl _ _).drew), HSu.out.set HY.out false, ((HF1.out.setCell (p := ⟨b, 4, none⟩) (.inr r1) _).setCell (p := ⟨p, 5, none⟩) (.inr HP1.out.rp) _).drew⟩
      obtain ⟨z, hz, hz1, _, _⟩ := HSu.out.2 k _ HY.out
      refine sum_lt fs _ _ (fun y hy => ?_) (List.mem_of_getElem? hz) ?_
      · by_cases e : y.1 = b
        · have : (((w1.setCell ⟨b, 4, none⟩ (.bool false)).setCell ⟨p, 5, none⟩ (.int .i64 ((k : Int) + 1))).drew).cell? ⟨y.1, 4, none⟩ = some (.bool false) := by
            rw [e]
            have hb := (((r3.set_ 4 (.bool false)).far (p := ⟨p, 5, none⟩) (fun e => Blk.ne_ HP1.out.blk r3 (by decide) e.symm) (.int .i64 ((k : Int) + 1))).drew)
            exact hb.cell 4
          rw [this]; exact Nat.zero_le _
        · rw [← HFc.out y hy]
          obtain ⟨i, hi⟩ := List.mem_iff_getElem?.1 hy
          have hil := (List.getElem?_eq_some_iff.1 hi).1
          obtain ⟨y', hg⟩ : ∃ y', gs[i]? = some y' := ⟨_, List.getElem?_eq_getElem (by rw [HSu.out.1]; exact hil)⟩
          obtain ⟨z', j1, j2, _⟩ := HSu.out.2 i _ hg
          rw [hi] at j1
          injection j1 with j1
          subst j1
          obtain ⟨cs, hcs⟩ := (HP1.out.frm _ (List.mem_of_getElem? hg)).blk
          rw [← j2] at hcs
          have hb := ((hcs.far (p := ⟨b, 4, none⟩) e (.bool false)).far (p := ⟨p, 5, none⟩) (fun e => Blk.ne_ HP1.out.blk hcs (by decide) e.symm) (.int .i64 ((k : Int) + 1))).drew
          rw [hb.cell, hcs.cell]; exact Nat.le_refl _
      · have hz1 : z.1 = b := hz1
        have h1 : (((w1.setCell ⟨b, 4, none⟩ (.bool false)).setCell ⟨p, 5, none⟩ (.int .i64 ((k : Int) + 1))).drew).cell? ⟨z.1, 4, none⟩ = some (.bool false) := by
          rw [hz1]
          have hb := (((r3.set_ 4 (.bool false)).far (p := ⟨p, 5, none⟩) (fun e => Blk.ne_ HP1.out.blk r3 (by decide) e.symm) (.int .i64 ((k : Int) + 1))).drew)
          exact hb.cell 4
        have h2 : wr.cell? ⟨z.1, 4, none⟩ = some (.bool true) := by
          rw [← HFc.out z (List.mem_of_getElem? hz), hz1]; exact fb4
        rw [h1, h2]; exact Nat.lt_succ_self 0
end
end Go.Proofs.YtfapklpcgcgahaaGreatDoor
