/-
  PoolKeys, PoolHeld, PoolDirty, PoolFl, in one text.
-/
import Derived.Shelf.SlIterI.Sorted
import Derived.Shelf.SlIterI.Keys
import Derived.Shelf.SlIterI.Nil
import Derived.Shelf.Sort.Plain
import Derived.Shelf.Slices.In.SortNone
import Derived.Test.YtccmmnacejdeoaaGreatDoorMg23
import Derived.Test.YtccmmnacejdeoaaGreatDoorMg29
import Derived.Deep.DeepCutAuto
/-
  slices.Sorted(maps.Keys(held)): the shelf's contracts laid at this dump, in plain words.
-/
namespace Go.Proofs.YtccmmnacejdeoaaGreatDoor
set_option linter.unusedSimpArgs false
set_option linter.unusedVariables false
open Go.Shelf Go.RowKit Go.Maps Go.Sort

def sortRen : Go.Shelf.Ren := ⟨fun | 189 => 95 | 125 => 103 | 257 => 102 | 128 => 115 | 129 => 116 | 294 => 106 | 295 => 107 | 296 => 108 | 297 => 109 | 298 => 110 | 299 => 111 | 216 => 112 | 300 => 113 | 301 => 114 | 328 => 117 | 329 => 118 | 330 => 119 | 331 => 120 | 332 => 121 | 215 => 122 | 343 => 123 | n => n, fun | 28 => 55 | 3 => 3 | 46 => 141 | 0 => 0 | 51 => 143 | 53 => 22 | 4 => 4 | 183 => 157 | 182 => 156 | 131 => 162 | 5 => 5 | 9 => 9 | 218 => 169 | 222 => 172 | 228 => 174 | 229 => 175 | n => n, fun | n => n⟩
theorem sortLays : Go.Proofs.Lays.n189 Tryz.prog sortRen := {
  mixed := by kernel_rfl
  f125 := Tryz.func103.trans (congrArg some (by kernel_rfl))
  f128 := Tryz.func115.trans (congrArg some (by kernel_rfl))
  f129 := Tryz.func116.trans (congrArg some (by kernel_rfl))
  f189 := Tryz.func95.trans (congrArg some (by kernel_rfl))
  f215 := Tryz.func122.trans (congrArg some (by kernel_rfl))
  f216 := Tryz.func112.trans (congrArg some (by kernel_rfl))
  f257 := Tryz.func102.trans (congrArg some (by kernel_rfl))
  f294 := Tryz.func106.trans (congrArg some (by kernel_rfl))
  f295 := Tryz.func107.trans (congrArg some (by kernel_rfl))
  f296 := Tryz.func108.trans (congrArg some (by kernel_rfl))
  f297 := Tryz.func109.trans (congrArg some (by kernel_rfl))
  f298 := Tryz.func110.trans (congrArg some (by kernel_rfl))
  f299 := Tryz.func111.trans (congrArg some (by kernel_rfl))
  f300 := Tryz.func113.trans (congrArg some (by kernel_rfl))
  f301 := Tryz.func114.trans (congrArg some (by kernel_rfl))
  f328 := Tryz.func117.trans (congrArg some (by kernel_rfl))
  f329 := Tryz.func118.trans (congrArg some (by kernel_rfl))
  f330 := Tryz.func119.trans (congrArg some (by kernel_rfl))
  f331 := Tryz.func120.trans (congrArg some (by kernel_rfl))
  f332 := Tryz.func121.trans (congrArg some (by kernel_rfl))
  f343 := Tryz.func123.trans (congrArg some (by kernel_rfl))
  t0 := Tryz.underlying0
  a0 := Tryz.isAgg0
  z0 := Tryz.sizeOf0
  v0 := Tryz.zeroValue0
  t3 := Tryz.underlying3
  a3 := Tryz.isAgg3
  z3 := Tryz.sizeOf3
  v3 := Tryz.zeroValue3
  t4 := Tryz.underlying4
  a4 := Tryz.isAgg4
  z4 := Tryz.sizeOf4
  v4 := Tryz.zeroValue4
  t5 := Tryz.underlying5
  a5 := Tryz.isAgg5
  z5 := Tryz.sizeOf5
  v5 := Tryz.zeroValue5
  t9 := Tryz.underlying9
  a9 := Tryz.isAgg9
  z9 := Tryz.sizeOf9
  v9 := Tryz.zeroValue9
  t28 := Tryz.underlying55
  a28 := Tryz.isAgg55
  z28 := Tryz.sizeOf55
  v28 := Tryz.zeroValue55
  t46 := Tryz.underlying141
  a46 := Tryz.isAgg141
  z46 := Tryz.sizeOf141
  v46 := Tryz.zeroValue141
  t51 := Tryz.underlying143
  a51 := Tryz.isAgg143
  z51 := Tryz.sizeOf143
  v51 := Tryz.zeroValue143
  t53 := Tryz.underlying22
  a53 := Tryz.isAgg22
  z53 := Tryz.sizeOf22
  v53 := Tryz.zeroValue22
  t131 := Tryz.underlying162
  a131 := Tryz.isAgg162
  z131 := Tryz.sizeOf162
  v131 := Tryz.zeroValue162
  t182 := Tryz.underlying156
  a182 := Tryz.isAgg156
  z182 := Tryz.sizeOf156
  v182 := Tryz.zeroValue156
  t183 := Tryz.underlying157
  a183 := Tryz.isAgg157
  z183 := Tryz.sizeOf157
  v183 := Tryz.zeroValue157
  t218 := Tryz.underlying169
  a218 := Tryz.isAgg169
  z218 := Tryz.sizeOf169
  v218 := Tryz.zeroValue169
  t222 := Tryz.underlying172
  a222 := Tryz.isAgg172
  z222 := Tryz.sizeOf172
  v222 := Tryz.zeroValue172
  t228 := Tryz.underlying174
  a228 := Tryz.isAgg174
  z228 := Tryz.sizeOf174
  v228 := Tryz.zeroValue174
  t229 := Tryz.underlying175
  a229 := Tryz.isAgg175
  z229 := Tryz.sizeOf175
  v229 := Tryz.zeroValue175 }
def keysRen : Go.Shelf.Ren := ⟨fun | 7 => 79 | 10 => 96 | n => n, fun | 23 => 67 | 26 => 3 | 3 => 71 | 28 => 132 | 0 => 0 | 27 => 131 | 33 => 146 | 4 => 4 | n => n, fun n => n⟩
theorem keysLays : Go.Proofs.SlLaysZI.n7 Tryz.prog keysRen := {
  mixed := by kernel_rfl
  f7 := ⟨ "maps.Keys[map[int]*terrier/pool.frame,int,*terrier/pool.frame]", by decide, Tryz.func79.trans (congrArg some (by kernel_rfl))⟩
  f10 := ⟨ "maps.Keys[map[int]*terrier/pool.frame,int,*terrier/pool.frame]$1", by decide, Tryz.func96.trans (congrArg some (by kernel_rfl))⟩
  t0 := Tryz.underlying0
  a0 := Tryz.isAgg0
  z0 := Tryz.sizeOf0
  v0 := Tryz.zeroValue0
  t4 := Tryz.underlying4
  a4 := Tryz.isAgg4
  z4 := Tryz.sizeOf4
  v4 := Tryz.zeroValue4
  t23 := Tryz.underlying67
  a23 := Tryz.isAgg67
  z23 := Tryz.sizeOf67
  v23 := Tryz.zeroValue67
  t26 := Tryz.underlying3
  a26 := Tryz.isAgg3
  z26 := Tryz.sizeOf3
  v26 := Tryz.zeroValue3
  t27 := Tryz.underlying131
  a27 := Tryz.isAgg131
  z27 := Tryz.sizeOf131
  v27 := Tryz.zeroValue131
  t28 := Tryz.underlying132
  a28 := Tryz.isAgg132
  z28 := Tryz.sizeOf132
  v28 := Tryz.zeroValue132
  t33 := Tryz.underlying146
  a33 := Tryz.isAgg146
  z33 := Tryz.sizeOf146
  v33 := Tryz.zeroValue146 }
def sortedRen : Go.Shelf.Ren := ⟨fun | 6 => 78 | 8 => 94 | 9 => 95 | 11 => 101 | 13 => 103 | 12 => 102 | 23 => 115 | 24 => 116 | 14 => 106 | 15 => 107 | 16 => 108 | 17 => 109 | 18 => 110 | 19 => 111 | 20 => 112 | 21 => 113 | 22 => 114 | 25 => 117 | 26 => 118 | 27 => 119 | 28 => 120 | 29 => 121 | 30 => 122 | 31 => 123 | n => n, fun | 26 => 3 | 28 => 132 | 24 => 55 | 0 => 0 | 3 => 3 | 37 => 141 | 48 => 143 | 50 => 22 | 4 => 4 | 40 => 157 | 39 => 156 | 45 => 162 | 5 => 5 | 9 => 9 | 51 => 169 | 55 => 172 | 57 => 174 | 58 => 175 | 33 => 146 | n => n, fun n => n⟩
theorem sortedLays : Go.Proofs.SlLaysZI.n6 Tryz.prog sortedRen := {
  mixed := by kernel_rfl
  f6 := ⟨ "slices.Sorted[int]", by decide, Tryz.func78.trans (congrArg some (by kernel_rfl))⟩
  f8 := ⟨ "slices.Collect[int]", by decide, Tryz.func94.trans (congrArg some (by kernel_rfl))⟩
  f11 := ⟨ "slices.AppendSeq[[]int,int]", by decide, Tryz.func101.trans (congrArg some (by kernel_rfl))⟩
  t0 := Tryz.underlying0
  a0 := Tryz.isAgg0
  z0 := Tryz.sizeOf0
  v0 := Tryz.zeroValue0
  t24 := Tryz.underlying55
  a24 := Tryz.isAgg55
  z24 := Tryz.sizeOf55
  v24 := Tryz.zeroValue55
  t26 := Tryz.underlying3
  a26 := Tryz.isAgg3
  z26 := Tryz.sizeOf3
  v26 := Tryz.zeroValue3
  t28 := Tryz.underlying132
  a28 := Tryz.isAgg132
  z28 := Tryz.sizeOf132
  v28 := Tryz.zeroValue132
  i26 := by kernel_rfl }
theorem sortsIn (m : Nat) : AnyZI.SortsIn Tryz.prog sortedRen Fence.wide m :=
  ⟨fun blk off cap ss W hH hblk hsz => callsIn_wide.2 (Any.slices_Sort_int sortLays blk off cap ss W hH hblk hsz),
   fun p cap W => callsIn_wide.2 (Any.slices_Sort_int_none sortLays p cap W)⟩
theorem Keys_lay (mb : Option Nat) (W : World) : Calls Tryz.prog 79 #[.map mb] W fun e w' => e = .returned (.func (.func 96) #[] #[.pointer (some ⟨W.heap.size, 0, none⟩)]) ∧ w' = W.alloc (.cells #[.map mb] 67) :=
  callsIn_wide.1 (AnyZI.keys_in keysLays Fence.wide 5 trivial rfl mb W)
theorem Sorted_lay {H : Type} (b nn : Nat) (D0 : DataW H) (R : Value → Option (DataW H × List MemPlace)) (w : World) (hown : w.ownsMap Tryz.prog 3 R b nn D0) (hmax : Maps.size D0 ≤ maxLen) (hbytes : Maps.size D0 * 8 ≤ 140737488355328) :
    Calls Tryz.prog 78 #[.func (.func 96) #[] #[.pointer (some ⟨w.heap.size, 0, none⟩)]] (w.alloc (.cells #[.map (some b)] 67)) fun e w' => ∃ (v : Value) (ss : List Int), e = .returned v ∧ ss.Perm (intKeys D0) ∧
      w'.ownsRow (w.alloc (.cells #[.map (some b)] 67)).heap.size 3 1 v ss.length ((ss.mergeSort (fun x y => decide (x ≤ y))).map encZ) ∧ (v = .slice none 0 0 ↔ ss = []) ∧ Below (w.alloc (.cells #[.map (some b)] 67)).heap.size (w.alloc (.cells #[.map (some b)] 67)) w' := by
  have hbl := hown.lt
  have hseq : SeqGives Fence.wide 2 Tryz.prog 96 #[.pointer (some ⟨w.heap.size, 0, none⟩)] encZ (fun ss => ss.Perm (intKeys D0)) (Maps.size D0) (w.alloc (.cells #[.map (some b)] 67)) :=
    AnyZI.keys_gives (ρ := keysRen) { keysLays with } Fence.wide _ trivial rfl (by omega) w.heap.size b nn D0 _ (by simp) (by simp) (by
      obtain ⟨es, clock, hb, Ft, hs, hD⟩ := hown
      exact ⟨es, clock, (Below.heap_alloc _ _ b hbl).trans hb, Ft, hs, hD⟩)
  exact callsIn_wide.1 (AnyZI.sorted_in sortedLays Fence.wide 5 trivial trivial trivial trivial rfl (by omega) (sortsIn _) (enters_of Tryz.func95 (by kernel_rfl) rfl) 96 #[.pointer (some ⟨w.heap.size, 0, none⟩)] trivial (enters_of Tryz.func96 (by kernel_rfl) rfl) _ _ hmax hbytes _ hseq)
end Go.Proofs.YtccmmnacejdeoaaGreatDoor

/-
  Held: the pages that are held, rising.
-/
namespace Go.Proofs.YtccmmnacejdeoaaGreatDoor
set_option linter.unusedSimpArgs false
set_option linter.unusedVariables false
open Go.RowKit Go.Maps Go.Sort

theorem FrMap.keys {w : World} {P : Program} {k : TypeId} {B n : Nat} {f : Int → Option Nat} (h : FrMap w P k B n f) (hk : P.underlying k = some (.int .i64)) (K : Keyed P k) :
    ∃ D, w.ownsMap P k frR B n D ∧ Maps.size D = n ∧ ∀ ss : List Int, ss.Nodup → (∀ x, x ∈ ss ↔ (f x).isSome = true) → ss.Perm (intKeys D) := by
  obtain ⟨D, hD, hsz, hf⟩ := h
  refine ⟨D, hD, hsz, fun ss hnd hm => ?_⟩
  obtain ⟨es, e1, e2, _⟩ := hD.entries K
  have hint : ∀ p ∈ es, ∃ x, p.1 = Lit.int .i64 x := by
    obtain ⟨es0, clock, _, F, _, eD⟩ := hD
    intro p hp
    have e3 : es = (es0.toList.map (WideElems.rg P k frR)).foldr DataW.insert [] := by
      rw [e1] at eD
      injection eD
    rw [e3] at hp
    obtain ⟨x, hx, rfl⟩ := List.mem_map.1 (mem_sorted.1 hp)
    obtain ⟨y, hy⟩ := F.reads x hx
    rw [WideElems.rg_of hy]
    obtain ⟨z, _, h2, _⟩ := Maps.keyOf_i64 hk (WideElems.rd_key hy)
    exact ⟨z, h2⟩
  subst e1
  exact perm_intKeys e2 hint hnd (fun x => by rw [hm x, (hf x).2])
set_option maxRecDepth 100000 in
theorem Clip_ints (A : Option Addr) (n c : Nat) (w : World) (hn : n ≤ c) : Calls Tryz.prog 55 #[.slice A n c] w fun e w' => e = .returned (.slice A n n) ∧ w = w' := by
  have qL := len_round
  go_enter Tryz.func55, Tryz.ntmps55
  go_wp2
  go_ret
  exact ⟨rfl, rfl⟩
/-- The numbers of the pages that are held, rising. -/
def sortedNos (fs : List (Nat × Frm)) : List Int := (numsOf fs).mergeSort leI
theorem sortedNos_length (fs : List (Nat × Frm)) : (sortedNos fs).length = fs.length := by
  unfold sortedNos
  rw [List.length_mergeSort, numsOf_length]
theorem sortedNos_mem {fs : List (Nat × Frm)} {x : Int} : x ∈ sortedNos fs ↔ x ∈ numsOf fs := by
  unfold sortedNos
  exact List.mem_mergeSort
theorem numsOf_mem {fs : List (Nat × Frm)} {x : Int} : x ∈ numsOf fs ↔ ∃ y ∈ fs, (y.2.x.no : Int) = x := by
  unfold numsOf ksOf
  simp [List.mem_map]
section
variable {RP RQ : Nat → Prop} {w : World} {p f l B : Nat} {frames hand : Int} {rv : Value} {fs : List (Nat × Frm)}
theorem PoolAt.nodup (h : PoolAt RP RQ w p f l frames hand B rv fs) : (numsOf fs).Nodup := by
  have h1 := h.dis
  unfold numsOf
  have e : (ksOf fs).map (fun k => (k.2 : Int)) = ((ksOf fs).map (·.2)).map (fun n : Nat => (n : Int)) := by rw [List.map_map]; rfl
  rw [e]
  exact List.Pairwise.map _ (fun a b (hab : a ≠ b) (e : (a : Int) = (b : Int)) => hab (by omega)) h1
set_option maxHeartbeats 1600000 in
set_option maxRecDepth 100000 in
theorem Held_any (h : PoolAt RP RQ w p f l frames hand B rv fs) :
    Calls Tryz.prog 54 #[.pointer (some ⟨p, 0, none⟩)] w fun e w' => ∃ A, e = .returned (.slice A fs.length fs.length) ∧ RoundIn w' A (sortedNos fs) ∧ Fr Nob w w' := by
  obtain ⟨D, hD, hsz, hkeys⟩ := h.map.keys Tryz.underlying3 key_law
  have hperm : (numsOf fs).Perm (intKeys D) := hkeys (numsOf fs) h.nodup (fun x => by
    rw [numsOf_mem]
    constructor
    · rintro ⟨y, hy, rfl⟩
      obtain ⟨i, hi⟩ := List.mem_iff_getElem?.1 hy
      rw [heldAt_at h.dis (ksOf_of (b := y.1) (m := y.2) hi)]; rfl
    · intro hx
      obtain ⟨b, hb⟩ := Option.isSome_iff_exists.1 hx
      obtain ⟨i, n, h1, h2⟩ := heldAt_is hb
      obtain ⟨m, h3, h4⟩ := ksOf_get h1
      exact ⟨_, List.mem_of_getElem? h3, by rw [← h2, ← h4]⟩)
  have hfl := h.len
  have hf64 := h.f1
  have HPerm := Lib.hid hperm
  have HK : Hid (∀ mb W, Calls Tryz.prog 79 #[.map mb] W fun e w' => e = .returned (.func (.func 96) #[] #[.pointer (some ⟨W.heap.size, 0, none⟩)]) ∧ w' = W.alloc (.cells #[.map mb] 67)) := Keys_lay
  have HS := Lib.hid (Sorted_lay B fs.length D frR w hD (by rw [hsz]; unfold maxLen; omega) (by rw [hsz]; omega))
  have c3 := h.blk.cell 3
  have z0 := h.blk.lt
  simp only [List.getElem?_toArray, List.getElem?_cons_zero, List.getElem?_cons_succ] at c3
  clear h hD hsz hkeys hperm
  go_enter Tryz.func54, Tryz.ntmps54
  go_wp2_with fail
  refine (HK.out _ _).mono ?_
  rintro e w1 ⟨rfl, rfl⟩
  go_wp2_with fail
  refine HS.out.mono ?_
  rintro e w2 ⟨v, ss, rfl, hss, hrow, hnil, hbel⟩
  have hsp : ss.Perm (numsOf fs) := hss.trans HPerm.out.symm
  have hsl : ss.length = fs.length := by rw [hsp.length_eq, numsOf_length]
  have hsm : ss.mergeSort leI = sortedNos fs := mergeSort_of_perm_i hsp
  have hrow' : w2.ownsRow (w.alloc (.cells #[.map (some B)] 67)).heap.size 3 1 v fs.length ((sortedNos fs).map fun z => .int .i64 z) := by
    rw [← hsm, ← hsl]; exact hrow
  obtain ⟨A, c, rfl⟩ := own_form hrow'
  have hnc : fs.length ≤ c := by
    rcases hrow'.2 with ⟨e1, e2⟩ | ⟨g, cap, cur, e1, _, _, h1, _⟩
    · omega
    · injection e1 with e1 e2 e3
      subst e3
      exact h1
  have HRi : Hid (RoundIn w2 A (sortedNos fs)) := RoundIn.own (own_base hrow' (fun _ _ => Nat.zero_le _))
  have HF : Hid (Fr Nob w w2) := (Fr.refl Nob w).alloc (.cells #[.map (some B)] 67) |>.trans (Fr.of_below hbel)
  have HCl := Lib.hid (Clip_ints A fs.length c w2 hnc)
  clear hss hrow hrow' hnil hbel hsp hsm HS HK
  go_wp2_with fail
  refine HCl.out.mono ?_
  rintro e w3 ⟨rfl, rfl⟩
  go_wp2
  go_ret
  exact ⟨A, rfl, HRi.out, HF.out⟩
end
end Go.Proofs.YtccmmnacejdeoaaGreatDoor

/-
  Dirty: the pages that are not in the file as they are.
-/
namespace Go.Proofs.YtccmmnacejdeoaaGreatDoor
set_option linter.unusedSimpArgs false
set_option linter.unusedVariables false
open Go.RowKit Go.Maps

def isDirty (fs : List (Nat × Frm)) (z : Int) : Bool := fs.any fun y => decide ((y.2.x.no : Int) = z) && y.2.dirty
def dirtyNos (fs : List (Nat × Frm)) : List Int := (sortedNos fs).filter (isDirty fs)
section
variable {RP RQ : Nat → Prop} {w : World} {p f l B : Nat} {frames hand : Int} {rv : Value} {fs : List (Nat × Frm)}
theorem PoolAt.dirty (h : PoolAt RP RQ w p f l frames hand B rv fs) {i b : Nat} {m : Frm} (hi : fs[i]? = some (b, m)) : isDirty fs (m.x.no : Int) = m.dirty := by
  unfold isDirty
  cases hd : m.dirty
  · rw [List.any_eq_false]
    intro y hy
    obtain ⟨j, hj⟩ := List.mem_iff_getElem?.1 hy
    by_cases e : (y.2.x.no : Int) = (m.x.no : Int)
    · have := h.apart hj hi (by show y.2.x.no = m.x.no; omega)
      subst this
      rw [hi] at hj
      injection hj with hj
      subst hj
      simp [hd]
    · simp [e]
  · rw [List.any_eq_true]
    exact ⟨_, List.mem_of_getElem? hi, by simp [hd]⟩
set_option maxHeartbeats 3200000 in
set_option maxRecDepth 100000 in
theorem Dirty_any (h : PoolAt RP RQ w p f l frames hand B rv fs) (hok : ∀ y ∈ fs, y.2.x.no < 100000) :
    Calls Tryz.prog 29 #[.pointer (some ⟨p, 0, none⟩)] w fun e w' => ∃ A, e = .returned (.slice A (dirtyNos fs).length (dirtyNos fs).length) ∧ RoundIn w' A (dirtyNos fs) ∧ (∀ a, A = some a → w.heap.size ≤ a.block) ∧ Fr Nob w w' := by
  have qL := len_round
  obtain ⟨i0, hi0, hz0, hz1, hz2⟩ := info_parts info_intq
  have H := Lib.hid h
  have HOk := Lib.hid hok
  have hfl := h.len
  have hf64 := h.f1
  have HHd := Lib.hid (Held_any h)
  obtain ⟨n, hn⟩ : ∃ n, fs.length = n := ⟨_, rfl⟩
  have HNl := Lib.hid hn
  rw [hn] at HHd hfl
  clear h hok hn
  go_enter Tryz.func29, Tryz.ntmps29
  go_wp2_with fail
  refine HHd.out.mono ?_
  rintro e w1 ⟨A, rfl, hri, hf1⟩
  have HRi := Lib.hid hri
  have HF1 := Lib.hid hf1
  clear hri hf1 HHd
  go_wp2
  try (rw [qL]; go_wp2)
  go_loopw [3, 5, 9] (fun ov _ iv wr => ∃ k : Nat, k ≤ n ∧ iv = .int .i64 k ∧ Hid (wr.ownsRow w1.heap.size 3 1 ov (((sortedNos fs).take k).filter (isDirty fs)).length ((((sortedNos fs).take k).filter (isDirty fs)).map fun z => .int .i64 z)) ∧ Hid (Fr Nob w1 wr)) (fun _ _ iv _ => n - (intOf iv).toNat)
  case atStart => exact ⟨0, by omega, rfl, World.ownsRow_nil _ _ _ _, Fr.refl _ _⟩
  case round =>
    obtain ⟨k, hk, rfl, hrow, hF⟩ := hrel
    by_cases hlt : k < n
    · obtain ⟨z, hz⟩ : ∃ z, (sortedNos fs)[k]? = some z := ⟨_, List.getElem?_eq_getElem (by rw [sortedNos_length, HNl.out]; exact hlt)⟩
      obtain ⟨g, o, rfl, hc⟩ := HRi.out (by rw [sortedNos_length, HNl.out]; omega)
      have cg0 := hc k z hz
      have zg0 := cell_lt cg0
      have cg := (hF.out.cell (p := ⟨g, o + k, none⟩) zg0 (fun h => h)).trans cg0
      have zg := cell_lt cg
      dsimp only at zg
      have hzm : z ∈ numsOf fs := sortedNos_mem.1 (List.mem_of_getElem? hz)
      obtain ⟨y, hy, hyz⟩ := numsOf_mem.1 hzm
      obtain ⟨i, hi⟩ := List.mem_iff_getElem?.1 hy
      obtain ⟨b, m⟩ := y
      have hyz : (m.x.no : Int) = z := hyz
      subst hyz
      have hno5 := HOk.out _ hy
      have hno5 : m.x.no < 100000 := hno5
      have hPr := (H.out.new HF1.out).new hF.out
      have HHeld : Hid (heldAt (ksOf fs) (m.x.no : Int) = some b) := heldAt_at hPr.dis (ksOf_of hi)
      have HMap := Lib.hid hPr.map
      have HDt : Hid (isDirty fs (m.x.no : Int) = m.dirty) := hPr.dirty hi
      obtain ⟨rb, kb, ko, cc, rq, hfb, hbs⟩ := hPr.frm _ hy
      dsimp only at hfb
      have fb1 := hfb.cell 3
      have zb := hfb.lt
      have p3 := hPr.blk.cell 3
      have zp := hPr.blk.lt
      simp only [List.getElem?_toArray, List.getElem?_cons_zero, List.getElem?_cons_succ] at fb1 p3
      have kk0 : (k : Int) < (n : Int) := by omega
      have kk1 : (0 : Int) ≤ (k : Int) := by omega
      have e8 : IntKind.i64.wrap ((k : Int) + 1) = (k : Int) + 1 := by rw [IntKind.wrap_i64]; omega
      have HTk : Hid (((sortedNos fs).take (k + 1)).filter (isDirty fs) = ((sortedNos fs).take k).filter (isDirty fs) ++ (if m.dirty = true then [(m.x.no : Int)] else [])) := by
        show _ = _
        rw [List.take_add_one, hz, List.filter_append]
        congr 1
        show List.filter (isDirty fs) [(m.x.no : Int)] = _
        rw [List.filter_cons, HDt.out]
        split <;> simp_all
      obtain ⟨ms, hms⟩ : ∃ ms, ((sortedNos fs).take k).filter (isDirty fs) = ms := ⟨_, rfl⟩
      have hml : ms.length ≤ 64 := by
        rw [← hms]
        have := List.length_filter_le (isDirty fs) ((sortedNos fs).take k)
        rw [List.length_take] at this
        omega
      rw [hms] at HTk hrow
      have HRow := Lib.hid hrow.out
      have HF := Lib.hid hF.out
      have hsz1 : w1.heap.size ≤ wr.heap.size := hF.out.size
      clear hc hz hzm hy hi hPr hfb hbs rq rb hrow hF hms cg0 zg0
      cases hmd : m.dirty
      · rw [hmd] at fb1
        have HTk0 : Hid (((sortedNos fs).take (k + 1)).filter (isDirty fs) = ms) := by
          have := HTk.out
          rw [hmd] at this
          exact Lib.hid (by simpa using this)
        clear hmd HTk HDt
        go_wp2_with (with_reducible refine wpList_fr_get _ rfl _ _ _ rfl _ _ key_law Tryz.underlying67 (mapif_zero _) B _ _ rfl HMap.out (m.x.no : Int) rfl (key_of _ (by omega) (by omega)) ?_; rw [HHeld.out]; dsimp only [ptrOf])
        go_roundw
        case rel => exact ⟨k + 1, by omega, by go_num, by rw [HTk0.out]; exact HRow, HF⟩
        case measure => simp [intOf]; omega
      · rw [hmd] at fb1
        have HTk0 : Hid (((sortedNos fs).take (k + 1)).filter (isDirty fs) = ms ++ [(m.x.no : Int)]) := by
          have := HTk.out
          rw [hmd] at this
          exact Lib.hid (by simpa using this)
        have HRa : Hid ((wr.alloc (.cells #[.int .i64 m.x.no] 3)).ownsRow w1.heap.size 3 1 u3 ms.length (ms.map fun z => .int .i64 z)) := HRow.out.alloc _
        have HNw : Hid (∀ (j : Nat) u, ([.int .i64 m.x.no] : List Value)[j]? = some u → (wr.alloc (.cells #[.int .i64 m.x.no] 3)).cell? ((⟨wr.heap.size, 0, none⟩ : Addr).add j) = some u) := fun j u hu => by
          have hb := Blk.new wr 3 #[.int .i64 m.x.no]
          rw [Addr.add_mid, Nat.zero_add]; exact (hb.cell j).trans (by simpa using hu)
        clear hmd HTk HDt
        go_wp2_with (first | (with_reducible refine wpList_fr_get _ rfl _ _ _ rfl _ _ key_law Tryz.underlying67 (mapif_zero _) B _ _ rfl HMap.out (m.x.no : Int) rfl (key_of _ (by omega) (by omega)) ?_; rw [HHeld.out]; dsimp only [ptrOf]) | (at_builtin; go_must (refine wpList_append_own_at _ rfl (.tmp 22) (.tmp 24) 55 rfl w1.heap.size 3 i0 (.int .i64 0) 1 8 Tryz.underlying55 hi0 hz0 hz1 hz2 rfl (by decide) u3 ms.length (ms.map fun z => .int .i64 z) rfl HRa.out ⟨wr.heap.size, 0, none⟩ 1 1 [.int .i64 m.x.no] rfl rfl HNw.out (by simp [Value.oneCell']) (by unfold maxLen; omega) (by omega) (by simp; omega) ?_); intro v7 w7 hown7 hg7 hn7 hat7; have HO7 := Lib.hid hown7; have HG7 := Lib.hid hg7; clear hown7 hg7 hn7 hat7))
        have HF7 : Hid (Fr Nob w1 w7) := (HF.out.alloc (.cells #[.int .i64 m.x.no] 3)).step (Fr.grown (Fr.refl (fun b => some b = u3.ownBlock) _) HG7.out (fun r hr => .inr hr.symm)) (fun i hi e => by have := HRow.out.lt i e.symm; omega)
        go_roundw
        case rel => exact ⟨k + 1, by omega, by go_num, by rw [HTk0.out, List.length_append, List.map_append]; exact HO7, HF7⟩
        case measure => simp [intOf]; omega
    · obtain rfl : k = n := by omega
      have hrow' := hrow.out
      rw [List.take_of_length_le (by rw [sortedNos_length, HNl.out]; exact Nat.le_refl _)] at hrow'
      have hd : (sortedNos fs).filter (isDirty fs) = dirtyNos fs := rfl
      rw [hd] at hrow'
      obtain ⟨A2, c2, rfl⟩ := own_form hrow'
      have hnc : (dirtyNos fs).length ≤ c2 := by
        rcases hrow'.2 with ⟨e1, e2⟩ | ⟨g, cap, cur, e1, _, _, h1, _⟩
        · omega
        · injection e1 with e1 e2 e3
          subst e3
          exact h1
      have HRi2 : Hid (RoundIn wr A2 (dirtyNos fs)) := RoundIn.own (own_base hrow' (fun _ _ => Nat.zero_le _))
      have HF2 := Lib.hid (HF1.out.trans hF.out)
      have HCl := Lib.hid (Clip_ints A2 (dirtyNos fs).length c2 wr hnc)
      have HFs2 : Hid (∀ a, A2 = some a → w.heap.size ≤ a.block) := fun a ha => by
        subst ha
        have h1 := (hrow'.lt a.block (by first | rfl | simp [Value.ownBlock])).1
        have h2 := HF1.out.size
        omega
      clear hrow hrow' hF hd
      go_wp2_with fail
      refine HCl.out.mono ?_
      rintro e w3 ⟨rfl, rfl⟩
      go_wp2
      go_ret
      exact ⟨A2, rfl, HRi2.out, HFs2.out, HF2.out⟩
/-- Nothing is dirty. -/
theorem PoolOk.calmDirty {U : Nat → Prop} {w : World} {p f l d pages : Nat} {frames : Int} {V : Nat → PgV} {L : LS} {M N : Nat} (h : PoolOk U w p f l d pages frames V L M N (fun _ => False)) :
    Calls Tryz.prog 29 #[.pointer (some ⟨p, 0, none⟩)] w fun e w' => ∃ A, e = .returned (.slice A 0 0) ∧ Fr Nob w w' := by
  obtain ⟨RP, RQ, RL, RD, hand, B, rv, fs, cur, S, T, lot, L', h1, h2, h3, h4⟩ := h
  refine (Dirty_any h1.pool (fun y hy => (h1.views.ok y hy).1.no)).mono ?_
  rintro e w' ⟨A, rfl, hr, _, hf⟩
  have hz : dirtyNos fs = [] := by
    unfold dirtyNos
    rw [List.filter_eq_nil_iff]
    intro z hz hd
    unfold isDirty at hd
    rw [List.any_eq_true] at hd
    obtain ⟨y, hy, hd⟩ := hd
    rw [Bool.and_eq_true] at hd
    exact h4 y hy hd.2
  rw [hz] at hr ⊢
  exact ⟨A, rfl, hf⟩
end
end Go.Proofs.YtccmmnacejdeoaaGreatDoor

/-
  What Flush does to a pool (plain): several pages at once, all that are dirty.
-/
namespace Go.Proofs.YtccmmnacejdeoaaGreatDoor
set_option linter.unusedSimpArgs false
set_option linter.unusedVariables false
open Go.RowKit Go.Maps

theorem cleanF_append (ms ns : List Nat) (fs : List (Nat × Frm)) : cleanF ns (cleanF ms fs) = cleanF (ms ++ ns) fs := by
  unfold cleanF
  rw [List.map_map]
  refine List.map_congr_left (fun y _ => ?_)
  simp only [Function.comp]
  by_cases h1 : y.2.x.no ∈ ms
  · rw [if_pos h1, if_pos (List.mem_append.2 (.inl h1))]
    by_cases h2 : y.2.x.no ∈ ns
    · rw [if_pos h2]
    · rw [if_neg h2]
  · rw [if_neg h1]
    by_cases h2 : y.2.x.no ∈ ns
    · rw [if_pos h2, if_pos (List.mem_append.2 (.inr h2))]
    · rw [if_neg h2, if_neg (fun e => (List.mem_append.1 e).elim h1 h2)]
theorem cleanF_ks (ns : List Nat) (fs : List (Nat × Frm)) : ksOf (cleanF ns fs) = ksOf fs := by
  unfold ksOf cleanF
  rw [List.map_map]
  refine List.map_congr_left (fun y _ => ?_)
  simp only [Function.comp]
  split <;> rfl
section
variable {w w' : World} {p f l d pages : Nat} {frames : Int} {V : Nat → PgV} {L : LS} {M N : Nat} {RP RQ RL RD F : Nat → Prop} {hand : Int} {B : Nat} {rv : Value} {fs : List (Nat × Frm)} {cur : Nat → Option PgV} {S : DS} {T : Nat} {lot : List PgV}
/-- What write leaves of several pages. -/
theorem PIn.wroteL (h : PIn w p f l d pages frames V L M N RP RQ RL RD hand B rv fs cur S T lot) (ys : List (Nat × Frm)) (hys : ∀ y ∈ ys, y ∈ fs) (hdis : ∀ (i j : Nat) x y, ys[i]? = some x → ys[j]? = some y → x.2.x.no = y.2.x.no → i = j) {L' : LS} {S' : DS} {RD' : Nat → Prop} (hM : M + 1 ≤ 1000000000000000000)
    (hp : PoolAt RP RQ w' p f l frames hand B rv (cleanF (ys.map (·.2.x.no)) fs)) (hu : Und w' f l d pages (curW cur (ys.map (·.2.x)) ys.length) L' S' (T + 1) (ys.map (·.2.x)) RL RD' N) (hsub : ∀ b, RD' b → RD b ∨ w.heap.size ≤ b) :
    PIn w' p f l d pages frames V L' (M + 1) N RP RQ RL RD' hand B rv (cleanF (ys.map (·.2.x.no)) fs) (curW cur (ys.map (·.2.x)) ys.length) S' (T + 1) (ys.map (·.2.x)) where
  pool := hp
  und := hu
  ap := fun b hb => ⟨(h.ap b hb).1, fun e => by
    rcases hsub b e with e | e
    · exact (h.ap b hb).2.1 e
    · rcases hb with hb | hb
      · have := h.pool.lt b hb; omega
      · have := h.pool.ltq b hb; omega, (h.ap b hb).2.2⟩
  views := h.views.cleaned (ys.map (·.2.x.no)) (fun no hno => curW_not cur _ no (fun x hx e => hno (by
      obtain ⟨y, hy, rfl⟩ := List.mem_map.1 hx
      rw [← e]; exact List.mem_map.2 ⟨y, hy, rfl⟩)) _) (fun y hy hn => by
      obtain ⟨z, hz, e⟩ := List.mem_map.1 hn
      obtain ⟨i, hi⟩ := List.mem_iff_getElem?.1 hz
      have e2 : z.2.x = y.2.x := by
        have h1 := h.views.held z (hys z hz)
        have h2 := h.views.held y hy
        rw [h1, h2, e]
      have := curW_of cur (ys.map (·.2.x)) (fun i j x y hx hy e => by
        rw [List.getElem?_map] at hx hy
        obtain ⟨x', hx', rfl⟩ := Option.map_eq_some_iff.1 hx
        obtain ⟨y', hy', rfl⟩ := Option.map_eq_some_iff.1 hy
        exact hdis i j x' y' hx' hy' e) ys.length i z.2.x (List.getElem?_eq_some_iff.1 hi).1 (by rw [List.getElem?_map, hi]; rfl)
      rw [e2] at this
      exact this) (fun n hn => by
      obtain ⟨z, hz, e⟩ := List.mem_map.1 hn
      exact ⟨z, hys z hz, e⟩)
  tm := by have := h.tm; omega
  M1 := hM
  vok := h.vok
/-- The rows of Dirty. -/
theorem dirtyNos_mem {z : Int} : z ∈ dirtyNos fs ↔ ∃ y ∈ fs, (y.2.x.no : Int) = z ∧ ∃ u ∈ fs, (u.2.x.no : Int) = z ∧ u.2.dirty = true := by
  unfold dirtyNos
  rw [List.mem_filter, sortedNos_mem, numsOf_mem]
  unfold isDirty
  rw [List.any_eq_true]
  constructor
  · rintro ⟨⟨y, hy, e⟩, u, hu, e2⟩
    rw [Bool.and_eq_true, decide_eq_true_eq] at e2
    exact ⟨y, hy, e, u, hu, e2⟩
  · rintro ⟨y, hy, e, u, hu, e2⟩
    exact ⟨⟨y, hy, e⟩, u, hu, by rw [Bool.and_eq_true, decide_eq_true_eq]; exact e2⟩
theorem PoolAt.dirty_nodup (h : PoolAt RP RQ w p f l frames hand B rv fs) : (dirtyNos fs).Nodup := by
  unfold dirtyNos
  have hn : (sortedNos fs).Nodup := by
    unfold sortedNos
    exact (List.mergeSort_perm _ _).nodup_iff.2 h.nodup
  exact List.Pairwise.filter _ hn
theorem PoolAt.dirty_len (h : PoolAt RP RQ w p f l frames hand B rv fs) : (dirtyNos fs).length ≤ 64 := by
  unfold dirtyNos
  have h1 := List.length_filter_le (isDirty fs) (sortedNos fs)
  rw [sortedNos_length] at h1
  have := h.len
  have := h.f1
  omega
/-- Behind all of them nothing is dirty. -/
theorem clean_all {y : Nat × Frm} (hy : y ∈ cleanF ((dirtyNos fs).map (·.toNat)) fs) : y.2.dirty = false := by
  obtain ⟨z, hz, _, e, _, h | ⟨h, rfl⟩⟩ := cleanF_mem hy
  · exact h.2
  · cases hd : y.2.dirty
    · rfl
    · exact absurd (List.mem_map.2 ⟨(y.2.x.no : Int), dirtyNos_mem.2 ⟨y, hz, rfl, y, hz, rfl, hd⟩, by simp⟩) h
end
end Go.Proofs.YtccmmnacejdeoaaGreatDoor
