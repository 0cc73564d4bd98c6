/-
  PoolHeld, PoolDirty, PoolMade2, PoolWorld, PoolAny, in one text.
-/
import Derived.Test.YtccmmnacejdeoaaGreatDoorMg25
import Derived.Test.YtccmmnacejdeoaaGreatDoorMg32
import Derived.Deep.DeepCutAuto
/-
  Held: the pages that are held, rising.
-/
namespace Go.Proofs.YtccmmnacejdeoaaGreatDoor
set_option linter.unusedSimpArgs false
set_option linter.unusedVariables false
open Go.RowKit Go.Maps Go.Sort

theorem FrMap.keys {w : World} {P : Program} {k : TypeId} {B n : Nat} {f : Int → Option Nat} (h : FrMap w P k B n f) (hk : P.underlying k = some (.int .i64)) (K : Keyed P k) :
    ∃ D, w.ownsMap P k frR B n D ∧ Maps.size D = n ∧ ∀ ss : List Int, ss.Nodup → (∀ x, x ∈ ss ↔ (f x).isSome = true) → ss.Perm (intKeys D) := by
  obtain ⟨D, hD, hsz, hf⟩ := h
  refine ⟨D, hD, hsz, fun ss hnd hm => ?_⟩
  obtain ⟨es, e1, e2, _⟩ := hD.entries K
  have hint : ∀ p ∈ es, ∃ x, p.1 = Lit.int .i64 x := by
    obtain ⟨es0, clock, _, F, _, eD⟩ := hD
    intro p hp
    have e3 : es = (es0.toList.map (WideElems.rg P k frR)).foldr DataW.insert [] := by
      rw [e1] at eD
      injection eD
    rw [e3] at hp
    obtain ⟨x, hx, rfl⟩ := List.mem_map.1 (mem_sorted.1 hp)
    obtain ⟨y, hy⟩ := F.reads x hx
    rw [WideElems.rg_of hy]
    obtain ⟨z, _, h2, _⟩ := Maps.keyOf_i64 hk (WideElems.rd_key hy)
    exact ⟨z, h2⟩
  subst e1
  exact perm_intKeys e2 hint hnd (fun x => by rw [hm x, (hf x).2])
set_option maxRecDepth 100000 in
theorem Clip_ints (A : Option Addr) (n c : Nat) (w : World) (hn : n ≤ c) : Calls Tryz.prog 55 #[.slice A n c] w fun e w' => e = .returned (.slice A n n) ∧ w = w' := by
  have qL := len_round
  go_enter Tryz.func55, Tryz.ntmps55
  go_wp2
  go_ret
  exact ⟨rfl, rfl⟩
/-- The numbers of the pages that are held, rising. -/
def sortedNos (fs : List (Nat × Frm)) : List Int := (numsOf fs).mergeSort leI
theorem sortedNos_length (fs : List (Nat × Frm)) : (sortedNos fs).length = fs.length := by
  unfold sortedNos
  rw [List.length_mergeSort, numsOf_length]
theorem sortedNos_mem {fs : List (Nat × Frm)} {x : Int} : x ∈ sortedNos fs ↔ x ∈ numsOf fs := by
  unfold sortedNos
  exact List.mem_mergeSort
theorem numsOf_mem {fs : List (Nat × Frm)} {x : Int} : x ∈ numsOf fs ↔ ∃ y ∈ fs, (y.2.x.no : Int) = x := by
  unfold numsOf ksOf
  simp [List.mem_map]
section
variable {RP RQ : Nat → Prop} {w : World} {p f l B : Nat} {frames hand : Int} {rv : Value} {fs : List (Nat × Frm)}
theorem PoolAt.nodup (h : PoolAt RP RQ w p f l frames hand B rv fs) : (numsOf fs).Nodup := by
  have h1 := h.dis
  unfold numsOf
  have e : (ksOf fs).map (fun k => (k.2 : Int)) = ((ksOf fs).map (·.2)).map (fun n : Nat => (n : Int)) := by rw [List.map_map]; rfl
  rw [e]
  exact List.Pairwise.map _ (fun a b (hab : a ≠ b) (e : (a : Int) = (b : Int)) => hab (by omega)) h1
set_option maxHeartbeats 1600000 in
set_option maxRecDepth 100000 in
theorem Held_any (h : PoolAt RP RQ w p f l frames hand B rv fs) :
    Calls Tryz.prog 54 #[.pointer (some ⟨p, 0, none⟩)] w fun e w' => ∃ A, e = .returned (.slice A fs.length fs.length) ∧ RoundIn w' A (sortedNos fs) ∧ Fr Nob w w' := by
  obtain ⟨D, hD, hsz, hkeys⟩ := h.map.keys Tryz.underlying3 key_law
  have hperm : (numsOf fs).Perm (intKeys D) := hkeys (numsOf fs) h.nodup (fun x => by
    rw [numsOf_mem]
    constructor
    · rintro ⟨y, hy, rfl⟩
      obtain ⟨i, hi⟩ := List.mem_iff_getElem?.1 hy
      rw [heldAt_at h.dis (ksOf_of (b := y.1) (m := y.2) hi)]; rfl
    · intro hx
      obtain ⟨b, hb⟩ := Option.isSome_iff_exists.1 hx
      obtain ⟨i, n, h1, h2⟩ := heldAt_is hb
      obtain ⟨m, h3, h4⟩ := ksOf_get h1
      exact ⟨_, List.mem_of_getElem? h3, by rw [← h2, ← h4]⟩)
  have hfl := h.len
  have hf64 := h.f1
  have HPerm := Lib.hid hperm
  have HK : Hid (∀ mb W, Calls Tryz.prog 79 #[.map mb] W fun e w' => e = .returned (.func (.func 96) #[] #[.pointer (some ⟨W.heap.size, 0, none⟩)]) ∧ w' = W.alloc (.cells #[.map mb] 67)) := Keys_lay
  have HS := Lib.hid (Sorted_lay B fs.length D frR w hD (by rw [hsz]; unfold maxLen; omega) (by rw [hsz]; omega))
  have c3 := h.blk.cell 3
  have z0 := h.blk.lt
  simp only [List.getElem?_toArray, List.getElem?_cons_zero, List.getElem?_cons_succ] at c3
  clear h hD hsz hkeys hperm
  go_enter Tryz.func54, Tryz.ntmps54
  go_wp2_with fail
  refine (HK.out _ _).mono ?_
  rintro e w1 ⟨rfl, rfl⟩
  go_wp2_with fail
  refine HS.out.mono ?_
  rintro e w2 ⟨v, ss, rfl, hss, hrow, hnil, hbel⟩
  have hsp : ss.Perm (numsOf fs) := hss.trans HPerm.out.symm
  have hsl : ss.length = fs.length := by rw [hsp.length_eq, numsOf_length]
  have hsm : ss.mergeSort leI = sortedNos fs := mergeSort_of_perm_i hsp
  have hrow' : w2.ownsRow (w.alloc (.cells #[.map (some B)] 67)).heap.size 3 1 v fs.length ((sortedNos fs).map fun z => .int .i64 z) := by
    rw [← hsm, ← hsl]; exact hrow
  obtain ⟨A, c, rfl⟩ := own_form hrow'
  have hnc : fs.length ≤ c := by
    rcases hrow'.2 with ⟨e1, e2⟩ | ⟨g, cap, cur, e1, _, _, h1, _⟩
    · omega
    · injection e1 with e1 e2 e3
      subst e3
      exact h1
  have HRi : Hid (RoundIn w2 A (sortedNos fs)) := RoundIn.own (own_base hrow' (fun _ _ => Nat.zero_le _))
  have HF : Hid (Fr Nob w w2) := (Fr.refl Nob w).alloc (.cells #[.map (some B)] 67) |>.trans (Fr.of_below hbel)
  have HCl := Lib.hid (Clip_ints A fs.length c w2 hnc)
  clear hss hrow hrow' hnil hbel hsp hsm HS HK
  go_wp2_with fail
  refine HCl.out.mono ?_
  rintro e w3 ⟨rfl, rfl⟩
  go_wp2
  go_ret
  exact ⟨A, rfl, HRi.out, HF.out⟩
end
end Go.Proofs.YtccmmnacejdeoaaGreatDoor

/-
  Dirty: the pages that are not in the file as they are.
-/
namespace Go.Proofs.YtccmmnacejdeoaaGreatDoor
set_option linter.unusedSimpArgs false
set_option linter.unusedVariables false
open Go.RowKit Go.Maps

def isDirty (fs : List (Nat × Frm)) (z : Int) : Bool := fs.any fun y => decide ((y.2.x.no : Int) = z) && y.2.dirty
def dirtyNos (fs : List (Nat × Frm)) : List Int := (sortedNos fs).filter (isDirty fs)
section
variable {RP RQ : Nat → Prop} {w : World} {p f l B : Nat} {frames hand : Int} {rv : Value} {fs : List (Nat × Frm)}
theorem PoolAt.dirty (h : PoolAt RP RQ w p f l frames hand B rv fs) {i b : Nat} {m : Frm} (hi : fs[i]? = some (b, m)) : isDirty fs (m.x.no : Int) = m.dirty := by
  unfold isDirty
  cases hd : m.dirty
  · rw [List.any_eq_false]
    intro y hy
    obtain ⟨j, hj⟩ := List.mem_iff_getElem?.1 hy
    by_cases e : (y.2.x.no : Int) = (m.x.no : Int)
    · have := h.apart hj hi (by show y.2.x.no = m.x.no; omega)
      subst this
      rw [hi] at hj
      injection hj with hj
      subst hj
      simp [hd]
    · simp [e]
  · rw [List.any_eq_true]
    exact ⟨_, List.mem_of_getElem? hi, by simp [hd]⟩
set_option maxHeartbeats 3200000 in
set_option maxRecDepth 100000 in
theorem Dirty_any (h : PoolAt RP RQ w p f l frames hand B rv fs) (hok : ∀ y ∈ fs, y.2.x.no < 100000) :
    Calls Tryz.prog 29 #[.pointer (some ⟨p, 0, none⟩)] w fun e w' => ∃ A, e = .returned (.slice A (dirtyNos fs).length (dirtyNos fs).length) ∧ RoundIn w' A (dirtyNos fs) ∧ Fr Nob w w' := by
  have qL := len_round
  obtain ⟨i0, hi0, hz0, hz1, hz2⟩ := info_parts info_intq
  have H := Lib.hid h
  have HOk := Lib.hid hok
  have hfl := h.len
  have hf64 := h.f1
  have HHd := Lib.hid (Held_any h)
  obtain ⟨n, hn⟩ : ∃ n, fs.length = n := ⟨_, rfl⟩
  have HNl := Lib.hid hn
  rw [hn] at HHd hfl
  clear h hok hn
  go_enter Tryz.func29, Tryz.ntmps29
  go_wp2_with fail
  refine HHd.out.mono ?_
  rintro e w1 ⟨A, rfl, hri, hf1⟩
  have HRi := Lib.hid hri
  have HF1 := Lib.hid hf1
  clear hri hf1 HHd
  go_wp2
  try (rw [qL]; go_wp2)
  go_loopw [3, 5, 9] (fun ov _ iv wr => ∃ k : Nat, k ≤ n ∧ iv = .int .i64 k ∧ Hid (wr.ownsRow w1.heap.size 3 1 ov (((sortedNos fs).take k).filter (isDirty fs)).length ((((sortedNos fs).take k).filter (isDirty fs)).map fun z => .int .i64 z)) ∧ Hid (Fr Nob w1 wr)) (fun _ _ iv _ => n - (intOf iv).toNat)
  case atStart => exact ⟨0, by omega, rfl, World.ownsRow_nil _ _ _ _, Fr.refl _ _⟩
  case round =>
    obtain ⟨k, hk, rfl, hrow, hF⟩ := hrel
    by_cases hlt : k < n
    · obtain ⟨z, hz⟩ : ∃ z, (sortedNos fs)[k]? = some z := ⟨_, List.getElem?_eq_getElem (by rw [sortedNos_length, HNl.out]; exact hlt)⟩
      obtain ⟨g, o, rfl, hc⟩ := HRi.out (by rw [sortedNos_length, HNl.out]; omega)
      have cg0 := hc k z hz
      have zg0 := cell_lt cg0
      have cg := (hF.out.cell (p := ⟨g, o + k, none⟩) zg0 (fun h => h)).trans cg0
      have zg := cell_lt cg
      dsimp only at zg
      have hzm : z ∈ numsOf fs := sortedNos_mem.1 (List.mem_of_getElem? hz)
      obtain ⟨y, hy, hyz⟩ := numsOf_mem.1 hzm
      obtain ⟨i, hi⟩ := List.mem_iff_getElem?.1 hy
      obtain ⟨b, m⟩ := y
      have hyz : (m.x.no : Int) = z := hyz
      subst hyz
      have hno5 := HOk.out _ hy
      have hno5 : m.x.no < 100000 := hno5
      have hPr := (H.out.new HF1.out).new hF.out
      have HHeld : Hid (heldAt (ksOf fs) (m.x.no : Int) = some b) := heldAt_at hPr.dis (ksOf_of hi)
      have HMap := Lib.hid hPr.map
      have HDt : Hid (isDirty fs (m.x.no : Int) = m.dirty) := hPr.dirty hi
      obtain ⟨rb, kb, ko, cc, rq, hfb, hbs⟩ := hPr.frm _ hy
      dsimp only at hfb
      have fb1 := hfb.cell 3
      have zb := hfb.lt
      have p3 := hPr.blk.cell 3
      have zp := hPr.blk.lt
      simp only [List.getElem?_toArray, List.getElem?_cons_zero, List.getElem?_cons_succ] at fb1 p3
      have kk0 : (k : Int) < (n : Int) := by omega
      have kk1 : (0 : Int) ≤ (k : Int) := by omega
      have e8 : IntKind.i64.wrap ((k : Int) + 1) = (k : Int) + 1 := by rw [IntKind.wrap_i64]; omega
      have HTk : Hid (((sortedNos fs).take (k + 1)).filter (isDirty fs) = ((sortedNos fs).take k).filter (isDirty fs) ++ (if m.dirty = true then [(m.x.no : Int)] else [])) := by
        show _ = _
        rw [List.take_add_one, hz, List.filter_append]
        congr 1
        show List.filter (isDirty fs) [(m.x.no : Int)] = _
        rw [List.filter_cons, HDt.out]
        split <;> simp_all
      obtain ⟨ms, hms⟩ : ∃ ms, ((sortedNos fs).take k).filter (isDirty fs) = ms := ⟨_, rfl⟩
      have hml : ms.length ≤ 64 := by
        rw [← hms]
        have := List.length_filter_le (isDirty fs) ((sortedNos fs).take k)
        rw [List.length_take] at this
        omega
      rw [hms] at HTk hrow
      have HRow := Lib.hid hrow.out
      have HF := Lib.hid hF.out
      have hsz1 : w1.heap.size ≤ wr.heap.size := hF.out.size
      clear hc hz hzm hy hi hPr hfb hbs rq rb hrow hF hms cg0 zg0
      cases hmd : m.dirty
      · rw [hmd] at fb1
        have HTk0 : Hid (((sortedNos fs).take (k + 1)).filter (isDirty fs) = ms) := by
          have := HTk.out
          rw [hmd] at this
          exact Lib.hid (by simpa using this)
        clear hmd HTk HDt
        go_wp2_with (with_reducible refine wpList_fr_get _ rfl _ _ _ rfl _ _ key_law Tryz.underlying67 (mapif_zero _) B _ _ rfl HMap.out (m.x.no : Int) rfl (key_of _ (by omega) (by omega)) ?_; rw [HHeld.out]; dsimp only [ptrOf])
        go_roundw
        case rel => exact ⟨k + 1, by omega, by go_num, by rw [HTk0.out]; exact HRow, HF⟩
        case measure => simp [intOf]; omega
      · rw [hmd] at fb1
        have HTk0 : Hid (((sortedNos fs).take (k + 1)).filter (isDirty fs) = ms ++ [(m.x.no : Int)]) := by
          have := HTk.out
          rw [hmd] at this
          exact Lib.hid (by simpa using this)
        have HRa : Hid ((wr.alloc (.cells #[.int .i64 m.x.no] 3)).ownsRow w1.heap.size 3 1 u3 ms.length (ms.map fun z => .int .i64 z)) := HRow.out.alloc _
        have HNw : Hid (∀ (j : Nat) u, ([.int .i64 m.x.no] : List Value)[j]? = some u → (wr.alloc (.cells #[.int .i64 m.x.no] 3)).cell? ((⟨wr.heap.size, 0, none⟩ : Addr).add j) = some u) := fun j u hu => by
          have hb := Blk.new wr 3 #[.int .i64 m.x.no]
          rw [Addr.add_mid, Nat.zero_add]; exact (hb.cell j).trans (by simpa using hu)
        clear hmd HTk HDt
        go_wp2_with (first | (with_reducible refine wpList_fr_get _ rfl _ _ _ rfl _ _ key_law Tryz.underlying67 (mapif_zero _) B _ _ rfl HMap.out (m.x.no : Int) rfl (key_of _ (by omega) (by omega)) ?_; rw [HHeld.out]; dsimp only [ptrOf]) | (at_builtin; go_must (refine wpList_append_own_at _ rfl (.tmp 22) (.tmp 24) 55 rfl w1.heap.size 3 i0 (.int .i64 0) 1 8 Tryz.underlying55 hi0 hz0 hz1 hz2 rfl (by decide) u3 ms.length (ms.map fun z => .int .i64 z) rfl HRa.out ⟨wr.heap.size, 0, none⟩ 1 1 [.int .i64 m.x.no] rfl rfl HNw.out (by simp [Value.oneCell']) (by unfold maxLen; omega) (by omega) (by simp; omega) ?_); intro v7 w7 hown7 hg7 hn7 hat7; have HO7 := Lib.hid hown7; have HG7 := Lib.hid hg7; clear hown7 hg7 hn7 hat7))
        have HF7 : Hid (Fr Nob w1 w7) := (HF.out.alloc (.cells #[.int .i64 m.x.no] 3)).step (Fr.grown (Fr.refl (fun b => some b = u3.ownBlock) _) HG7.out (fun r hr => .inr hr.symm)) (fun i hi e => by have := HRow.out.lt i e.symm; omega)
        go_roundw
        case rel => exact ⟨k + 1, by omega, by go_num, by rw [HTk0.out, List.length_append, List.map_append]; exact HO7, HF7⟩
        case measure => simp [intOf]; omega
    · obtain rfl : k = n := by omega
      have hrow' := hrow.out
      rw [List.take_of_length_le (by rw [sortedNos_length, HNl.out]; exact Nat.le_refl _)] at hrow'
      have hd : (sortedNos fs).filter (isDirty fs) = dirtyNos fs := rfl
      rw [hd] at hrow'
      obtain ⟨A2, c2, rfl⟩ := own_form hrow'
      have hnc : (dirtyNos fs).length ≤ c2 := by
        rcases hrow'.2 with ⟨e1, e2⟩ | ⟨g, cap, cur, e1, _, _, h1, _⟩
        · omega
        · injection e1 with e1 e2 e3
          subst e3
          exact h1
      have HRi2 : Hid (RoundIn wr A2 (dirtyNos fs)) := RoundIn.own (own_base hrow' (fun _ _ => Nat.zero_le _))
      have HF2 := Lib.hid (HF1.out.trans hF.out)
      have HCl := Lib.hid (Clip_ints A2 (dirtyNos fs).length c2 wr hnc)
      clear hrow hrow' hF hd
      go_wp2_with fail
      refine HCl.out.mono ?_
      rintro e w3 ⟨rfl, rfl⟩
      go_wp2
      go_ret
      exact ⟨A2, rfl, HRi2.out, HF2.out⟩
/-- Nothing is dirty. -/
theorem PoolOk.calmDirty {U : Nat → Prop} {w : World} {p f l d pages : Nat} {frames : Int} {V : Nat → PgV} {L : LS} {M N : Nat} (h : PoolOk U w p f l d pages frames V L M N (fun _ => False)) :
    Calls Tryz.prog 29 #[.pointer (some ⟨p, 0, none⟩)] w fun e w' => ∃ A, e = .returned (.slice A 0 0) ∧ Fr Nob w w' := by
  obtain ⟨RP, RQ, RL, RD, hand, B, rv, fs, cur, S, T, lot, L', h1, h2, h3, h4⟩ := h
  refine (Dirty_any h1.pool (fun y hy => (h1.views.ok y hy).1.no)).mono ?_
  rintro e w' ⟨A, rfl, hr, hf⟩
  have hz : dirtyNos fs = [] := by
    unfold dirtyNos
    rw [List.filter_eq_nil_iff]
    intro z hz hd
    unfold isDirty at hd
    rw [List.any_eq_true] at hd
    obtain ⟨y, hy, hd⟩ := hd
    rw [Bool.and_eq_true] at hd
    exact h4 y hy hd.2
  rw [hz] at hr ⊢
  exact ⟨A, rfl, hf⟩
end
end Go.Proofs.YtccmmnacejdeoaaGreatDoor

/-
  made: a pool over a new disk, and what is noted of it.
-/
namespace Go.Proofs.YtccmmnacejdeoaaGreatDoor
set_option linter.unusedSimpArgs false
set_option linter.unusedVariables false
open Go.RowKit Go.Maps

def w5cells (d : Nat) (F L P : Value) : Array Value := #[.pointer (some ⟨d, 0, none⟩), F, L, P, .int .i64 0, .int .i64 0, .int .i64 0, .int .i64 0, .int .i64 0, .int .i64 0, .int .i64 0, .int .i64 0,
  .int .u64 0, .int .u64 0, .int .u64 0, .int .u64 0, .int .u64 0, .int .u64 0, .int .u64 0, .int .u64 0, .int .i64 0, .int .i64 0, .int .i64 0, .int .i64 0, .int .i64 0, .int .i64 0, .int .i64 0, .int .i64 0,
  .bool false, .bool false, .bool false, .bool false, .bool false, .bool false, .bool false, .bool false]
def World5 (w : World) (g d f l p : Nat) : Prop := Blk w g 36 (w5cells d (.pointer (some ⟨f, 0, none⟩)) (.pointer (some ⟨l, 0, none⟩)) (.pointer (some ⟨p, 0, none⟩)))
def V0 : Nat → PgV := fun no => ⟨no, 0, zeros 480⟩
set_option maxHeartbeats 3200000 in
set_option maxRecDepth 100000 in
theorem made5_any (frames : Int) (w : World) (h1 : 1 ≤ frames) (h2 : frames ≤ 64) :
    Calls Tryz.prog 6 #[.int .i64 frames] w fun e w' => ∃ g d f l p U, e = .returned (.pointer (some ⟨g, 0, none⟩)) ∧ World5 w' g d f l p ∧ PoolOk U w' p f l d 8 frames V0 (LS.empty 144 80) 0 0 (fun _ => False) ∧ (∀ b, U b → w.heap.size ≤ b) ∧ w.heap.size ≤ g ∧ ¬ U g ∧ Fr Nob w w' := by
  have HNe : Hid (∀ W, Calls Tryz.prog 20 #[.int .i64 8] W fun e w' => e = .returned (.int .i64 144) ∧ W = w') := fun W => Need_any 8 W (by omega) (by omega)
  have HNw : Hid (∀ W, Calls Tryz.prog 22 #[.int .i64 224] W fun e w' => ∃ p, e = .returned (.tuple #[.pointer (some ⟨p, 0, none⟩), .int .i64 0]) ∧ W.heap.size ≤ p ∧ DiskOk (fun b => W.heap.size ≤ b ∧ b < w'.heap.size) w' p (DS.new 224) ∧ Fr Nob W w') := fun W => New_good 224 W (by omega) (by omega)
  go_enter Tryz.func6, Tryz.ntmps6
  go_wp2_with fail
  refine (HNe.out _).mono ?_
  rintro e w1 ⟨rfl, rfl⟩
  go_wp2_with fail
  refine (HNw.out _).mono ?_
  rintro e w1 ⟨d, rfl, hd0, hd1, hf1⟩
  have HD1 := Lib.hid hd1
  have HF1 := Lib.hid hf1
  clear hd1 hf1 HNw
  go_wp2_with fail
  have hda : Fr Nob w1 (w1.alloc (.cells (w5cells d (.pointer none) (.pointer none) (.pointer none)) 36)) := (Fr.refl _ w1).alloc _
  have hba : Blk (w1.alloc (.cells (w5cells d (.pointer none) (.pointer none) (.pointer none)) 36)) w1.heap.size 36 (w5cells d (.pointer none) (.pointer none) (.pointer none)) := Blk.new _ _ _
  have hza : (w1.alloc (.cells (w5cells d (.pointer none) (.pointer none) (.pointer none)) 36)).heap.size = w1.heap.size + 1 := by simp
  have HOp := Lib.hid (Open_fresh (pages := 8) (HD1.out.new hda) (by omega) (by omega) (by omega))
  have HBa := Lib.hid hba
  have HFa := Lib.hid (HF1.out.trans hda)
  have HZa := Lib.hid hza
  obtain ⟨g, hg⟩ : ∃ g, w1.heap.size = g := ⟨_, rfl⟩
  obtain ⟨wa, hwa⟩ : ∃ W, w1.alloc (.cells (w5cells d (.pointer none) (.pointer none) (.pointer none)) 36) = W := ⟨_, rfl⟩
  rw [hwa] at HOp HBa HFa HZa
  rw [hg] at HBa HZa
  have HG := Lib.hid hg
  unfold w5cells at hwa
  rw [hwa]
  clear hda hba hza hwa
  refine HOp.out.mono ?_
  rintro e w2 ⟨f, R2, rfl, hf0, hf1, hfa2, hd2, hnf2, hsub2, hfr2⟩
  have HFile2 := Lib.hid hfa2
  have HNf2 := Lib.hid hnf2
  have HSub2 := Lib.hid hsub2
  have HFr2 := Lib.hid hfr2
  have HWal := Lib.hid (Open_new 144 80 hd2 (by omega) (by omega) (by omega))
  have HD2 := Lib.hid hd2
  clear hfa2 hnf2 hsub2 hfr2 hd2 HOp
  go_wp2_with fail
  refine (HNe.out _).mono ?_
  rintro e w3 ⟨rfl, rfl⟩
  go_wp2_with fail
  refine HWal.out.mono ?_
  rintro e w3 ⟨l, rfl, hl0, ⟨RL, RD, hwal, hRL, hRD⟩, hfr3⟩
  have HWi := Lib.hid hwal
  have HRL := Lib.hid hRL
  have HRD := Lib.hid hRD
  have HFr3 := Lib.hid hfr3
  have HPn := Lib.hid (PNew_good ⟨f, 0, none⟩ ⟨l, 0, none⟩ frames w3 h1 h2)
  clear hwal hRL hRD hfr3 HWal
  go_wp2_with fail
  refine HPn.out.mono ?_
  rintro e w4 ⟨rfl, hw4⟩
  have hz2 : wa.heap.size ≤ w2.heap.size := HFr2.out.size
  have hz3 : w2.heap.size ≤ w3.heap.size := HFr3.out.size
  have hwg := HZa.out
  have hgz := HG.out
  have h1z := HF1.out.size
  have hR2 : ∀ b, R2 b → (w.heap.size ≤ b ∧ b ≠ g) := fun b hb => by
    rcases HSub2.out b hb with e | e
    · omega
    · omega
  have hng2 : ¬ R2 g := fun e => (hR2 g e).2 rfl
  have hb2 := HBa.out.fr HFr2.out (fun e => by
    have e := (show Mut _ wa g from e).1
    omega)
  have hb3 := hb2.fr HFr3.out (fun e => hng2 e.1)
  have hf3 : Fr Nob w3 w4 := by rw [hw4]; exact ((Fr.refl _ w3).alloc _).alloc _
  have hb4 := hb3.fr hf3 (fun h => h)
  have HB4 := Lib.hid hb4
  have hfile4 : FileAt w4 f d 0 8 0 := (HFile2.out.fr HFr3.out (fun e => HNf2.out e.1)).fr hf3 (fun h => h)
  have HFile4 := Lib.hid hfile4
  have HW4 := Lib.hid hw4
  have HF34 := Lib.hid hf3
  have b1 := hb4.cell 1
  have b2 := hb4.cell 2
  have b3 := hb4.cell 3
  have q1 := hb4.frozen 1
  have q2 := hb4.frozen 2
  have q3 := hb4.frozen 3
  have sz := hb4.lt
  unfold w5cells at b1 b2 b3
  simp only [List.getElem?_toArray, List.getElem?_cons_zero, List.getElem?_cons_succ] at b1 b2 b3
  clear hb2 hb3 hb4 hf3 hfile4 HPn hw4
  go_wp2
  go_ret
  have hbE := ((HB4.out.set_ 1 (.pointer (some ⟨f, 0, none⟩))).set_ 2 (.pointer (some ⟨l, 0, none⟩))).set_ 3 (.pointer (some ⟨w3.heap.size + 1, 0, none⟩))
  have hfE : Fr (fun b => b = g) w4 (((w4.setCell ⟨g, 1, none⟩ (.pointer (some ⟨f, 0, none⟩))).setCell ⟨g, 2, none⟩ (.pointer (some ⟨l, 0, none⟩))).setCell ⟨g, 3, none⟩ (.pointer (some ⟨w3.heap.size + 1, 0, none⟩))) :=
    (((Fr.refl (fun b => b = g) w4).setCell (p := ⟨g, 1, none⟩) (.inr rfl) _).setCell (p := ⟨g, 2, none⟩) (.inr rfl) _).setCell (p := ⟨g, 3, none⟩) (.inr rfl) _
  have hz4 : w3.heap.size + 2 = w4.heap.size := by rw [HW4.out]; simp
  have hpb : Blk w4 (w3.heap.size + 1) 69 #[.pointer (some ⟨f, 0, none⟩), .pointer (some ⟨l, 0, none⟩), .int .i64 frames, .map (some w3.heap.size), .slice none 0 0, .int .i64 0] := by
    rw [HW4.out]
    have := Blk.new (w3.alloc (.map #[] 0)) 69 #[.pointer (some ⟨f, 0, none⟩), .pointer (some ⟨l, 0, none⟩), .int .i64 frames, .map (some w3.heap.size), .slice none 0 0, .int .i64 0]
    simpa using this
  have hmap : FrMap w4 Tryz.prog 3 w3.heap.size 0 (fun _ => none) := by
    rw [HW4.out]
    exact (FrMap.empty w3 Tryz.prog 3).fr ((Fr.refl Nob _).alloc _) (fun h => h)
  have hRLw : ∀ b, RL b → w2.heap.size ≤ b ∧ b < w3.heap.size := fun b hb => ⟨HRL.out b hb, HWi.out.l.lt hb⟩
  have hRDw : ∀ b, RD b → (R2 b ∨ w2.heap.size ≤ b) ∧ b < w3.heap.size := fun b hb => ⟨HRD.out b hb, HWi.out.d.lt hb⟩
  have hf2z : f < w2.heap.size := hf1
  have hwal4 : WalIn w4 l d (LS.empty (8 * 8 + 80) 80) (DS.new 224) RL RD := ⟨HWi.out.l.new HF34.out, HWi.out.d.new HF34.out, HWi.out.apart, HWi.out.fits⟩
  have hok := PoolOk.fresh (pages := 8) (n := 224) (logn := 80) (frames := frames) HFile4.out hwal4 hpb hmap (by omega) (by omega) (by omega) (by omega) (by omega) h1 h2 ⟨fun e => by have := hRLw f e; omega, fun e => by
    rcases (hRDw f e).1 with e | e
    · exact HNf2.out e
    · omega⟩ ⟨fun e => by have := hRLw _ e; omega, fun e => by have := (hRDw _ e).2; omega⟩ ⟨fun e => by have := hRLw _ e; omega, fun e => by have := (hRDw _ e).2; omega⟩
  have hU : ∀ b, Uni (fun b => b = w3.heap.size + 1 ∨ b = w3.heap.size) (fun _ => False) RL RD f b → w.heap.size ≤ b ∧ b ≠ g := fun b hb => by
    rcases hb with (hb | hb) | hb | hb | hb | hb
    · omega
    · omega
    · exact hb.elim
    · have := hRLw b hb; omega
    · rcases (hRDw b hb).1 with e | e
      · exact hR2 b e
      · omega
    · omega
  refine ⟨g, d, f, l, w3.heap.size + 1, _, rfl, hbE, hok.fr hfE (fun b hb e => (hU b hb).2 e), fun b hb => (hU b hb).1, by omega, fun e => (hU g e).2 rfl, ?_⟩
  refine ((((HFa.out.step HFr2.out (fun i hi e => ?_)).step HFr3.out (fun i hi e => ?_)).trans HF34.out).step hfE (fun i hi e => ?_))
  · have := (show Mut _ wa i from e).1; omega
  · have := hR2 i (show Mut R2 w2 i from e).1; omega
  · have e : i = g := e
    omega
end Go.Proofs.YtccmmnacejdeoaaGreatDoor

/-
  A made world, call by call (PW).
-/
namespace Go.Proofs.YtccmmnacejdeoaaGreatDoor
set_option linter.unusedSimpArgs false
set_option linter.unusedVariables false
open Go.RowKit Go.Maps

section
variable {U F : Nat → Prop} {w w' : World} {g d f l p : Nat}
theorem World5.cf (h : World5 w g d f l p) : w.cell? ⟨g, 1, none⟩ = some (.pointer (some ⟨f, 0, none⟩)) := by
  have := Blk.cell h 1
  simpa [w5cells] using this
theorem World5.cl (h : World5 w g d f l p) : w.cell? ⟨g, 2, none⟩ = some (.pointer (some ⟨l, 0, none⟩)) := by
  have := Blk.cell h 2
  simpa [w5cells] using this
theorem World5.cp (h : World5 w g d f l p) : w.cell? ⟨g, 3, none⟩ = some (.pointer (some ⟨p, 0, none⟩)) := by
  have := Blk.cell h 3
  simpa [w5cells] using this
/-- A world that was made since w0, as its pool has it now. -/
structure PW (w0 w : World) (U : Nat → Prop) (g d f l p : Nat) (frames : Int) (V : Nat → PgV) (L : LS) (M N : Nat) (Dt : Nat → Prop) : Prop where
  wld : World5 w g d f l p
  ok : PoolOk U w p f l d 8 frames V L M N Dt
  hi : ∀ b, U b → w0.heap.size ≤ b
  ng : ¬ U g
  gg : w0.heap.size ≤ g
  fr : Fr Nob w0 w
  lo : ∀ b, U b → b < w.heap.size
variable {w0 : World} {frames : Int} {V : Nat → PgV} {L : LS} {M N : Nat} {Dt : Nat → Prop}
theorem PW.lt (h : PW w0 w U g d f l p frames V L M N Dt) : g < w.heap.size := Blk.lt h.wld
theorem PW.new (h : PW w0 w U g d f l p frames V L M N Dt) (hf : Fr Nob w w') : PW w0 w' U g d f l p frames V L M N Dt :=
  ⟨Blk.fr h.wld hf (fun h => h), h.ok.new hf, h.hi, h.ng, h.gg, h.fr.trans hf, fun b hb => Nat.lt_of_lt_of_le (h.lo b hb) hf.size⟩
theorem PW.step (h : PW w0 w U g d f l p frames V L M N Dt) {U' : Nat → Prop} {V' : Nat → PgV} {L' : LS} {M' N' : Nat} {Dt' : Nat → Prop} (hok : PoolOk U' w' p f l d 8 frames V' L' M' N' Dt') (hs : ∀ b, U' b → U b ∨ w.heap.size ≤ b) (hf : Fr U w w') : PW w0 w' (fun b => U' b ∧ b < w'.heap.size) g d f l p frames V' L' M' N' Dt' := by
  have hz := h.fr.size
  refine ⟨Blk.fr h.wld hf h.ng, hok.trim, fun b hb => ?_, fun e => ?_, h.gg, h.fr.step hf (fun i hi e => ?_), fun b hb => hb.2⟩
  · rcases hs b hb.1 with e | e
    · exact h.hi b e
    · omega
  · rcases hs g e.1 with e | e
    · exact h.ng e
    · have := h.lt; omega
  · have := h.hi i e; omega
theorem PW.dmono (h : PW w0 w U g d f l p frames V L M N Dt) {Dt' : Nat → Prop} (hd : ∀ k, Dt k → Dt' k) : PW w0 w U g d f l p frames V L M N Dt' :=
  ⟨h.wld, h.ok.dmono hd, h.hi, h.ng, h.gg, h.fr, h.lo⟩
theorem made5_pw (frames : Int) (w : World) (h1 : 1 ≤ frames) (h2 : frames ≤ 64) :
    Calls Tryz.prog 6 #[.int .i64 frames] w fun e w' => ∃ g d f l p U, e = .returned (.pointer (some ⟨g, 0, none⟩)) ∧ PW w w' U g d f l p frames V0 (LS.empty 144 80) 0 0 (fun _ => False) := by
  refine (made5_any frames w h1 h2).mono ?_
  rintro e w' ⟨g, d, f, l, p, U, rfl, h1, h2, h3, h4, h5, h6⟩
  exact ⟨g, d, f, l, p, _, rfl, h1, h2.trim, fun b hb => h3 b hb.1, fun e => h5 e.1, h4, h6, fun b hb => hb.2⟩
end
end Go.Proofs.YtccmmnacejdeoaaGreatDoor

/-
  A pool's calls, whatever is asked.
-/
namespace Go.Proofs.YtccmmnacejdeoaaGreatDoor
set_option linter.unusedSimpArgs false
set_option linter.unusedVariables false
open Go.RowKit Go.Maps

theorem PNew_some (a b : Addr) (n : Int) (w : World) :
    Calls Tryz.prog 7 #[.pointer (some a), .pointer (some b), .int .i64 n] w fun e w' => ∃ q c, e = .returned (.tuple #[.pointer q, .int .i64 c]) ∧ (((1 ≤ n ∧ n ≤ 64) ∧ c = 0 ∧ ∃ k, q = some k) ∨ (¬ (1 ≤ n ∧ n ≤ 64) ∧ c = 1 ∧ q = none)) ∧ Fr Nob w w' := by
  by_cases h : 1 ≤ n ∧ n ≤ 64
  · refine (PNew_good a b n w h.1 h.2).mono ?_
    rintro e w' ⟨rfl, rfl⟩
    exact ⟨_, _, rfl, .inl ⟨h, rfl, _, rfl⟩, ((Fr.refl _ w).alloc _).alloc _⟩
  · refine (PNew_bad (some a) (some b) n w (by right; right; omega)).mono ?_
    rintro e w' ⟨rfl, rfl⟩
    exact ⟨_, _, rfl, .inr ⟨h, rfl, rfl⟩, Fr.refl _ _⟩
section
variable {U : Nat → Prop} {w0 w w' : World} {g d f l p : Nat} {frames : Int} {V : Nat → PgV} {L : LS} {M N : Nat} {Dt : Nat → Prop}
theorem PW.more (h : PW w0 w U g d f l p frames V L M N Dt) {K : Nat} (hK : M ≤ K) (h1 : K ≤ 1000000000000000000) : PW w0 w U g d f l p frames V L K N Dt :=
  ⟨h.wld, h.ok.more hK h1, h.hi, h.ng, h.gg, h.fr, h.lo⟩
theorem PW.put_any (h : PW w0 w U g d f l p frames V L M N Dt) (no lsn : Int) (A : Option Addr) (n c : Nat) (h0 : 0 ≤ lsn) (hz : n = 480 → ∃ kb ko, A = some ⟨kb, ko, none⟩ ∧ Bsl w A c (zeros 480) ∧ ¬ U kb) (hnx : L.next = 1) (hM : M + 1 ≤ 1000000000000000000) :
    Calls Tryz.prog 8 #[.pointer (some ⟨p, 0, none⟩), .agg #[.int .i64 no, .int .u64 lsn, .slice A n c]] w fun e w' => ∃ c', e = .returned (.int .i64 c') ∧ ((((0 ≤ no ∧ no < 8) ∧ n = 480 ∧ lsn < 1) ∧ c' = 0) ∨ (¬ ((0 ≤ no ∧ no < 8) ∧ n = 480 ∧ lsn < 1) ∧ c' = 1)) ∧ ∃ U' V', PW w0 w' U' g d f l p frames V' L (M + 1) N (fun _ => True) := by
  by_cases hg : (0 ≤ no ∧ no < 8) ∧ n = 480 ∧ lsn < 1
  · obtain ⟨⟨q0, q1⟩, rfl, q2⟩ := hg
    obtain ⟨kb, ko, rfl, hb, hu⟩ := hz rfl
    obtain ⟨m, rfl⟩ : ∃ m : Nat, no = m := ⟨no.toNat, by omega⟩
    obtain rfl : lsn = ((0 : Nat) : Int) := by omega
    refine (h.ok.put ⟨m, 0, zeros 480⟩ kb ko c hb ⟨by show m < 100000; omega, by show 0 < _; omega, zeros_length 480⟩ (by show m < 8; omega) (by show 0 < L.next; omega) hu hM).mono ?_
    rintro e w' ⟨rfl, U', hok, hs, hf⟩
    exact ⟨0, rfl, .inl ⟨⟨⟨q0, q1⟩, rfl, by omega⟩, rfl⟩, _, _, (h.step hok hs hf).dmono (fun _ _ => trivial)⟩
  · refine (h.ok.putBad no lsn A n c (by rw [hnx]; have : ((1 : Nat) : Int) = 1 := rfl; have : ((8 : Nat) : Int) = 8 := rfl; omega)).mono ?_
    rintro e w' ⟨rfl, hf⟩
    exact ⟨1, rfl, .inr ⟨hg, rfl⟩, U, V, ((h.new hf).more (by omega) hM).dmono (fun _ _ => trivial)⟩
theorem PW.get_any (h : PW w0 w U g d f l p frames V L M N Dt) (no : Int) (h0 : -9223372036854775808 ≤ no) (h1 : no ≤ 9223372036854775807) (hM : M + 1 ≤ 1000000000000000000) :
    Calls Tryz.prog 9 #[.pointer (some ⟨p, 0, none⟩), .int .i64 no] w fun e w' => ∃ a1 a2 A3 n3 c3 c', e = .returned (.tuple #[.agg #[.int .i64 a1, .int .u64 a2, .slice A3 n3 c3], .int .i64 c']) ∧ (((0 ≤ no ∧ no < 8) ∧ c' = 0) ∨ (¬ (0 ≤ no ∧ no < 8) ∧ c' = 1)) ∧ ∃ U' V', PW w0 w' U' g d f l p frames V' L (M + 1) N Dt := by
  by_cases hg : 0 ≤ no ∧ no < 8
  · obtain ⟨q0, q1⟩ := hg
    obtain ⟨m, rfl⟩ : ∃ m : Nat, no = m := ⟨no.toNat, by omega⟩
    refine (h.ok.get m (by omega) hM).mono ?_
    rintro e w' ⟨k, rfl, hc, hk, U', hok, hu, hs, hf⟩
    exact ⟨_, _, _, _, _, 0, rfl, .inl ⟨⟨q0, q1⟩, rfl⟩, _, _, h.step hok hs hf⟩
  · refine (h.ok.getBad no (by have : ((8 : Nat) : Int) = 8 := rfl; omega) h0 h1).mono ?_
    rintro e w' ⟨rfl, hf⟩
    exact ⟨_, _, _, _, _, 1, rfl, .inr ⟨hg, rfl⟩, U, V, (h.new hf).more (by omega) hM⟩
theorem PW.evict_any (h : PW w0 w U g d f l p frames V L M N Dt) (no : Int) (hM : M + 1 ≤ 1000000000000000000) :
    Calls Tryz.prog 10 #[.pointer (some ⟨p, 0, none⟩), .int .i64 no] w fun e w' => ∃ c', e = .returned (.int .i64 c') ∧ (((0 ≤ no ∧ no < 8) ∧ c' = 0) ∨ (¬ (0 ≤ no ∧ no < 8) ∧ c' = 1)) ∧ ∃ U' V', PW w0 w' U' g d f l p frames V' L (M + 1) N Dt := by
  by_cases hg : 0 ≤ no ∧ no < 8
  · obtain ⟨q0, q1⟩ := hg
    obtain ⟨m, rfl⟩ : ∃ m : Nat, no = m := ⟨no.toNat, by omega⟩
    refine (h.ok.evict m (by omega) hM).mono ?_
    rintro e w' ⟨rfl, U', hok, hs, hf⟩
    exact ⟨0, rfl, .inl ⟨⟨q0, q1⟩, rfl⟩, _, _, (h.step hok hs hf).dmono (fun _ hk => hk.1)⟩
  · refine (h.ok.evictBad no (by have : ((8 : Nat) : Int) = 8 := rfl; omega)).mono ?_
    rintro e w' ⟨rfl, rfl⟩
    exact ⟨1, rfl, .inr ⟨hg, rfl⟩, U, V, h.more (by omega) hM⟩
end
end Go.Proofs.YtccmmnacejdeoaaGreatDoor
