/-
  PoolKeys, PoolUnd, Pool4, PoolRun, in one text.
-/
import Derived.Shelf.SlIterI.Sorted
import Derived.Shelf.SlIterI.Keys
import Derived.Shelf.SlIterI.Nil
import Derived.Shelf.Sort.Plain
import Derived.Shelf.Slices.In.SortNone
import Derived.Test.YtccmmnacejdeoaaGreatDoorMg24
import Derived.Test.YtccmmnacejdeoaaGreatDoorMg13
import Derived.Test.YtccmmnacejdeoaaGreatDoorMg10
import Derived.Test.YtccmmnacejdeoaaGreatDoorMg02
import Derived.Test.YtccmmnacejdeoaaGreatDoorMg08
import Derived.Deep.MidRow
/-
  slices.Sorted(maps.Keys(held)): the shelf's contracts laid at this dump, in plain words.
-/
namespace Go.Proofs.YtccmmnacejdeoaaGreatDoor
set_option linter.unusedSimpArgs false
set_option linter.unusedVariables false
open Go.Shelf Go.RowKit Go.Maps Go.Sort

def sortRen : Go.Shelf.Ren := ⟨fun | 189 => 95 | 125 => 103 | 257 => 102 | 128 => 115 | 129 => 116 | 294 => 106 | 295 => 107 | 296 => 108 | 297 => 109 | 298 => 110 | 299 => 111 | 216 => 112 | 300 => 113 | 301 => 114 | 328 => 117 | 329 => 118 | 330 => 119 | 331 => 120 | 332 => 121 | 215 => 122 | 343 => 123 | n => n, fun | 28 => 55 | 3 => 3 | 46 => 141 | 0 => 0 | 51 => 143 | 53 => 22 | 4 => 4 | 183 => 157 | 182 => 156 | 131 => 162 | 5 => 5 | 9 => 9 | 218 => 169 | 222 => 172 | 228 => 174 | 229 => 175 | n => n, fun | n => n⟩
theorem sortLays : Go.Proofs.Lays.n189 Tryz.prog sortRen := {
  mixed := by kernel_rfl
  f125 := Tryz.func103.trans (congrArg some (by kernel_rfl))
  f128 := Tryz.func115.trans (congrArg some (by kernel_rfl))
  f129 := Tryz.func116.trans (congrArg some (by kernel_rfl))
  f189 := Tryz.func95.trans (congrArg some (by kernel_rfl))
  f215 := Tryz.func122.trans (congrArg some (by kernel_rfl))
  f216 := Tryz.func112.trans (congrArg some (by kernel_rfl))
  f257 := Tryz.func102.trans (congrArg some (by kernel_rfl))
  f294 := Tryz.func106.trans (congrArg some (by kernel_rfl))
  f295 := Tryz.func107.trans (congrArg some (by kernel_rfl))
  f296 := Tryz.func108.trans (congrArg some (by kernel_rfl))
  f297 := Tryz.func109.trans (congrArg some (by kernel_rfl))
  f298 := Tryz.func110.trans (congrArg some (by kernel_rfl))
  f299 := Tryz.func111.trans (congrArg some (by kernel_rfl))
  f300 := Tryz.func113.trans (congrArg some (by kernel_rfl))
  f301 := Tryz.func114.trans (congrArg some (by kernel_rfl))
  f328 := Tryz.func117.trans (congrArg some (by kernel_rfl))
  f329 := Tryz.func118.trans (congrArg some (by kernel_rfl))
  f330 := Tryz.func119.trans (congrArg some (by kernel_rfl))
  f331 := Tryz.func120.trans (congrArg some (by kernel_rfl))
  f332 := Tryz.func121.trans (congrArg some (by kernel_rfl))
  f343 := Tryz.func123.trans (congrArg some (by kernel_rfl))
  t0 := Tryz.underlying0
  a0 := Tryz.isAgg0
  z0 := Tryz.sizeOf0
  v0 := Tryz.zeroValue0
  t3 := Tryz.underlying3
  a3 := Tryz.isAgg3
  z3 := Tryz.sizeOf3
  v3 := Tryz.zeroValue3
  t4 := Tryz.underlying4
  a4 := Tryz.isAgg4
  z4 := Tryz.sizeOf4
  v4 := Tryz.zeroValue4
  t5 := Tryz.underlying5
  a5 := Tryz.isAgg5
  z5 := Tryz.sizeOf5
  v5 := Tryz.zeroValue5
  t9 := Tryz.underlying9
  a9 := Tryz.isAgg9
  z9 := Tryz.sizeOf9
  v9 := Tryz.zeroValue9
  t28 := Tryz.underlying55
  a28 := Tryz.isAgg55
  z28 := Tryz.sizeOf55
  v28 := Tryz.zeroValue55
  t46 := Tryz.underlying141
  a46 := Tryz.isAgg141
  z46 := Tryz.sizeOf141
  v46 := Tryz.zeroValue141
  t51 := Tryz.underlying143
  a51 := Tryz.isAgg143
  z51 := Tryz.sizeOf143
  v51 := Tryz.zeroValue143
  t53 := Tryz.underlying22
  a53 := Tryz.isAgg22
  z53 := Tryz.sizeOf22
  v53 := Tryz.zeroValue22
  t131 := Tryz.underlying162
  a131 := Tryz.isAgg162
  z131 := Tryz.sizeOf162
  v131 := Tryz.zeroValue162
  t182 := Tryz.underlying156
  a182 := Tryz.isAgg156
  z182 := Tryz.sizeOf156
  v182 := Tryz.zeroValue156
  t183 := Tryz.underlying157
  a183 := Tryz.isAgg157
  z183 := Tryz.sizeOf157
  v183 := Tryz.zeroValue157
  t218 := Tryz.underlying169
  a218 := Tryz.isAgg169
  z218 := Tryz.sizeOf169
  v218 := Tryz.zeroValue169
  t222 := Tryz.underlying172
  a222 := Tryz.isAgg172
  z222 := Tryz.sizeOf172
  v222 := Tryz.zeroValue172
  t228 := Tryz.underlying174
  a228 := Tryz.isAgg174
  z228 := Tryz.sizeOf174
  v228 := Tryz.zeroValue174
  t229 := Tryz.underlying175
  a229 := Tryz.isAgg175
  z229 := Tryz.sizeOf175
  v229 := Tryz.zeroValue175 }
def keysRen : Go.Shelf.Ren := ⟨fun | 7 => 79 | 10 => 96 | n => n, fun | 23 => 67 | 26 => 3 | 3 => 71 | 28 => 132 | 0 => 0 | 27 => 131 | 33 => 146 | 4 => 4 | n => n, fun n => n⟩
theorem keysLays : Go.Proofs.SlLaysZI.n7 Tryz.prog keysRen := {
  mixed := by kernel_rfl
  f7 := ⟨ "maps.Keys[map[int]*terrier/pool.frame,int,*terrier/pool.frame]", by decide, Tryz.func79.trans (congrArg some (by kernel_rfl))⟩
  f10 := ⟨ "maps.Keys[map[int]*terrier/pool.frame,int,*terrier/pool.frame]$1", by decide, Tryz.func96.trans (congrArg some (by kernel_rfl))⟩
  t0 := Tryz.underlying0
  a0 := Tryz.isAgg0
  z0 := Tryz.sizeOf0
  v0 := Tryz.zeroValue0
  t4 := Tryz.underlying4
  a4 := Tryz.isAgg4
  z4 := Tryz.sizeOf4
  v4 := Tryz.zeroValue4
  t23 := Tryz.underlying67
  a23 := Tryz.isAgg67
  z23 := Tryz.sizeOf67
  v23 := Tryz.zeroValue67
  t26 := Tryz.underlying3
  a26 := Tryz.isAgg3
  z26 := Tryz.sizeOf3
  v26 := Tryz.zeroValue3
  t27 := Tryz.underlying131
  a27 := Tryz.isAgg131
  z27 := Tryz.sizeOf131
  v27 := Tryz.zeroValue131
  t28 := Tryz.underlying132
  a28 := Tryz.isAgg132
  z28 := Tryz.sizeOf132
  v28 := Tryz.zeroValue132
  t33 := Tryz.underlying146
  a33 := Tryz.isAgg146
  z33 := Tryz.sizeOf146
  v33 := Tryz.zeroValue146 }
def sortedRen : Go.Shelf.Ren := ⟨fun | 6 => 78 | 8 => 94 | 9 => 95 | 11 => 101 | 13 => 103 | 12 => 102 | 23 => 115 | 24 => 116 | 14 => 106 | 15 => 107 | 16 => 108 | 17 => 109 | 18 => 110 | 19 => 111 | 20 => 112 | 21 => 113 | 22 => 114 | 25 => 117 | 26 => 118 | 27 => 119 | 28 => 120 | 29 => 121 | 30 => 122 | 31 => 123 | n => n, fun | 26 => 3 | 28 => 132 | 24 => 55 | 0 => 0 | 3 => 3 | 37 => 141 | 48 => 143 | 50 => 22 | 4 => 4 | 40 => 157 | 39 => 156 | 45 => 162 | 5 => 5 | 9 => 9 | 51 => 169 | 55 => 172 | 57 => 174 | 58 => 175 | 33 => 146 | n => n, fun n => n⟩
theorem sortedLays : Go.Proofs.SlLaysZI.n6 Tryz.prog sortedRen := {
  mixed := by kernel_rfl
  f6 := ⟨ "slices.Sorted[int]", by decide, Tryz.func78.trans (congrArg some (by kernel_rfl))⟩
  f8 := ⟨ "slices.Collect[int]", by decide, Tryz.func94.trans (congrArg some (by kernel_rfl))⟩
  f11 := ⟨ "slices.AppendSeq[[]int,int]", by decide, Tryz.func101.trans (congrArg some (by kernel_rfl))⟩
  t0 := Tryz.underlying0
  a0 := Tryz.isAgg0
  z0 := Tryz.sizeOf0
  v0 := Tryz.zeroValue0
  t24 := Tryz.underlying55
  a24 := Tryz.isAgg55
  z24 := Tryz.sizeOf55
  v24 := Tryz.zeroValue55
  t26 := Tryz.underlying3
  a26 := Tryz.isAgg3
  z26 := Tryz.sizeOf3
  v26 := Tryz.zeroValue3
  t28 := Tryz.underlying132
  a28 := Tryz.isAgg132
  z28 := Tryz.sizeOf132
  v28 := Tryz.zeroValue132
  i26 := by kernel_rfl }
theorem sortsIn (m : Nat) : AnyZI.SortsIn Tryz.prog sortedRen Fence.wide m :=
  ⟨fun blk off cap ss W hH hblk hsz => callsIn_wide.2 (Any.slices_Sort_int sortLays blk off cap ss W hH hblk hsz),
   fun p cap W => callsIn_wide.2 (Any.slices_Sort_int_none sortLays p cap W)⟩
theorem Keys_lay (mb : Option Nat) (W : World) : Calls Tryz.prog 79 #[.map mb] W fun e w' => e = .returned (.func (.func 96) #[] #[.pointer (some ⟨W.heap.size, 0, none⟩)]) ∧ w' = W.alloc (.cells #[.map mb] 67) :=
  callsIn_wide.1 (AnyZI.keys_in keysLays Fence.wide 5 trivial rfl mb W)
theorem Sorted_lay {H : Type} (b nn : Nat) (D0 : DataW H) (R : Value → Option (DataW H × List MemPlace)) (w : World) (hown : w.ownsMap Tryz.prog 3 R b nn D0) (hmax : Maps.size D0 ≤ maxLen) (hbytes : Maps.size D0 * 8 ≤ 140737488355328) :
    Calls Tryz.prog 78 #[.func (.func 96) #[] #[.pointer (some ⟨w.heap.size, 0, none⟩)]] (w.alloc (.cells #[.map (some b)] 67)) fun e w' => ∃ (v : Value) (ss : List Int), e = .returned v ∧ ss.Perm (intKeys D0) ∧
      w'.ownsRow (w.alloc (.cells #[.map (some b)] 67)).heap.size 3 1 v ss.length ((ss.mergeSort (fun x y => decide (x ≤ y))).map encZ) ∧ (v = .slice none 0 0 ↔ ss = []) ∧ Below (w.alloc (.cells #[.map (some b)] 67)).heap.size (w.alloc (.cells #[.map (some b)] 67)) w' := by
  have hbl := hown.lt
  have hseq : SeqGives Fence.wide 2 Tryz.prog 96 #[.pointer (some ⟨w.heap.size, 0, none⟩)] encZ (fun ss => ss.Perm (intKeys D0)) (Maps.size D0) (w.alloc (.cells #[.map (some b)] 67)) :=
    AnyZI.keys_gives (ρ := keysRen) { keysLays with } Fence.wide _ trivial rfl (by omega) w.heap.size b nn D0 _ (by simp) (by simp) (by
      obtain ⟨es, clock, hb, Ft, hs, hD⟩ := hown
      exact ⟨es, clock, (Below.heap_alloc _ _ b hbl).trans hb, Ft, hs, hD⟩)
  exact callsIn_wide.1 (AnyZI.sorted_in sortedLays Fence.wide 5 trivial trivial trivial trivial rfl (by omega) (sortsIn _) (enters_of Tryz.func95 (by kernel_rfl) rfl) 96 #[.pointer (some ⟨w.heap.size, 0, none⟩)] trivial (enters_of Tryz.func96 (by kernel_rfl) rfl) _ _ hmax hbytes _ hseq)
end Go.Proofs.YtccmmnacejdeoaaGreatDoor

/-
  What lies under a pool: a file and a log on one disk that nothing threatens; the calls of the pool on them.
-/
namespace Go.Proofs.YtccmmnacejdeoaaGreatDoor
set_option linter.unusedSimpArgs false
set_option linter.unusedVariables false
open Go.RowKit

theorem pgOf_at {now : List (List UInt8)} {at0 pages T : Nat} {lot : List PgV} {cur : Nat → Option PgV} (h : PSt now at0 pages T lot cur) (no : Nat) (hno : no < pages) : pgAt now at0 no = pgOf (cur no) no := by
  rw [pgAt_cur h no hno]
  unfold pgOf
  cases cur no <;> rfl
structure Und (w : World) (f l d pages : Nat) (cur : Nat → Option PgV) (L : LS) (S : DS) (T : Nat) (lot : List PgV) (RL RD : Nat → Prop) (N : Nat) : Prop where
  file : FileAt w f d 0 pages T
  log : LogOk RL w l d L
  disk : DiskOk RD w d S
  still : Still S
  ps : PSt S.now 0 pages T lot cur
  good : LogGood L N
  fit1 : 8 * pages + 80 ≤ L.start
  fit2 : L.start + L.n ≤ S.now.length
  n16 : 16 ≤ L.n
  pg1 : 1 ≤ pages
  pg2 : pages ≤ 4096
  ap3 : ∀ b, RL b → ¬ RD b ∧ b ≠ f
  ap4 : ¬ RD f
section
variable {w w' : World} {f l d pages : Nat} {cur : Nat → Option PgV} {L : LS} {S : DS} {T : Nat} {lot : List PgV} {RL RD F : Nat → Prop} {N : Nat}
theorem Und.fr (h : Und w f l d pages cur L S T lot RL RD N) (hf : Fr F w w') (h1 : ∀ b, RL b → ¬ F b) (h2 : ∀ b, RD b → ¬ F b) (h3 : ¬ F f) : Und w' f l d pages cur L S T lot RL RD N :=
  { h with
    file := h.file.fr hf h3
    log := h.log.fr hf h1
    disk := h.disk.fr hf h2 }
theorem Und.new (h : Und w f l d pages cur L S T lot RL RD N) (hf : Fr Nob w w') : Und w' f l d pages cur L S T lot RL RD N := h.fr hf (fun _ _ h => h) (fun _ _ h => h) (fun h => h)
theorem Und.flt (h : Und w f l d pages cur L S T lot RL RD N) : f < w.heap.size := Blk.lt h.file
theorem Und.wal (h : Und w f l d pages cur L S T lot RL RD N) : WalIn w l d L S RL RD := ⟨h.log, h.disk, fun b hb => (h.ap3 b hb).1, h.fit2⟩
/-- The log is flushed. -/
theorem Und.flush (h : Und w f l d pages cur L S T lot RL RD N) :
    Calls Tryz.prog 50 #[.pointer (some ⟨l, 0, none⟩)] w fun e w' => e = .returned (.int .i64 0) ∧ ∃ L' S' RD', Und w' f l d pages cur L' S' T lot RL RD' N ∧ LSame L L' ∧ (∀ b, RD' b → RD b ∨ w.heap.size ≤ b) ∧ Fr (fun b => RL b ∨ RD b) w w' := by
  refine (Flush_still h.wal h.good h.still h.n16).mono ?_
  rintro e w' ⟨rfl, L', S', RD', hw, hs, hg, hst, hlen, hag, hsub, hf⟩
  have hln := h.ps.len
  refine ⟨rfl, L', S', RD', ?_, hs, hsub, hf⟩
  exact { h with
    file := h.file.fr hf (fun e => by
      rcases e with e | e
      · exact (h.ap3 f e).2 rfl
      · exact h.ap4 e)
    log := hw.l
    disk := hw.d
    still := hst
    ps := h.ps.agree (fun j s hj => hw.d.len64 hj) hlen (fun j _ hj => hag j (.inl (by have := h.fit1; omega)))
    good := hg
    fit1 := by rw [hs.start]; exact h.fit1
    fit2 := by rw [hs.start, hs.n, hlen]; exact h.fit2
    n16 := by rw [hs.n]; exact h.n16
    ap3 := fun b hb => ⟨fun hd => hw.apart b hb hd, (h.ap3 b hb).2⟩
    ap4 := fun hd => by
      rcases hsub f hd with e | e
      · exact h.ap4 e
      · have := h.flt; omega }
/-- Pages are written. -/
theorem Und.write (h : Und w f l d pages cur L S T lot RL RD N) (A : Option Addr) (c : Nat) (xs : List (PgV × Value)) (hl : PgsIn (fun b => RD b ∨ b = f) w A xs) (hok : ∀ x ∈ xs, x.1.Ok ∧ x.1.no < pages) (hn0 : 0 < xs.length) (hn : xs.length ≤ 8)
    (hdis : ∀ (i j : Nat) x y, xs[i]? = some x → xs[j]? = some y → x.1.no = y.1.no → i = j) (hT : T + 1 < 4611686018427387904) :
    Calls Tryz.prog 51 #[.pointer (some ⟨f, 0, none⟩), .slice A xs.length c] w fun e w' => e = .returned (.int .i64 0) ∧ ∃ S' RD', Und w' f l d pages (curW cur (xs.map (·.1)) xs.length) L S' (T + 1) (xs.map (·.1)) RL RD' N ∧ (∀ b, RD' b → RD b ∨ w.heap.size ≤ b) ∧ Fr (fun b => RD b ∨ b = f) w w' := by
  have hpg := h.pg2
  refine (write_now A c xs h.file h.ap4 h.disk h.still h.ps hl hok hn0 hn hdis (by omega) (by omega) hT).mono ?_
  rintro e w' ⟨S', rfl, hnow, hd', hst', hps', hfa', hfr⟩
  have hfr2 : Fr (fun b => RD b ∨ b = f) w w' := hfr.mono (fun b _ hb => hb.elim (fun h => .inl h.1) .inr)
  have hln := h.ps.len
  have hlen : S'.now.length = S.now.length := by rw [hnow, wrote_length]
  refine ⟨rfl, S', Ext RD w w', ?_, fun b hb => hb.elim .inl (fun h => .inr h.1), hfr2⟩
  exact { h with
    file := hfa'
    log := h.log.fr hfr2 (fun b hb e => by
      rcases e with e | e
      · exact (h.ap3 b hb).1 e
      · exact (h.ap3 b hb).2 e)
    disk := hd'
    still := hst'
    ps := hps'
    fit2 := by rw [hlen]; exact h.fit2
    ap3 := fun b hb => ⟨fun hd => by
      rcases hd with hd | hd
      · exact (h.ap3 b hb).1 hd
      · have := h.log.lt hb; omega, (h.ap3 b hb).2⟩
    ap4 := fun hd => by
      rcases hd with hd | hd
      · exact h.ap4 hd
      · have := h.flt; omega }
/-- A page is read. -/
theorem Und.read (h : Und w f l d pages cur L S T lot RL RD N) (no : Nat) (hno : no < pages) :
    Calls Tryz.prog 15 #[.pointer (some ⟨f, 0, none⟩), .int .i64 no] w fun e w' => ∃ g o, e = .returned (.tuple #[.agg #[.int .i64 no, .int .u64 (pgOf (cur no) no).lsn, .slice (some ⟨g, o, none⟩) 480 480], .int .i64 0]) ∧ Bsl w' (some ⟨g, o, none⟩) 480 (pgOf (cur no) no).d ∧ (pgOf (cur no) no).Ok ∧ (pgOf (cur no) no).no = no ∧ w.heap.size ≤ g ∧ Fr Nob w w' := by
  refine (pgRead_any no h.file h.disk h.still.calm.dead h.ps.sound hno).mono ?_
  rintro e w' ⟨g, o, rfl, hb, hg1, hg2, hf⟩
  rw [pgOf_at h.ps no hno] at hb ⊢
  have hok : (pgOf (cur no) no).Ok ∧ (pgOf (cur no) no).no = no := by
    cases hc : cur no with
    | none => exact ⟨⟨by show no < _; have := h.pg2; omega, by show 0 < _; omega, zeros_length 480⟩, rfl⟩
    | some x => exact h.ps.cok no x hno hc
  exact ⟨g, o, rfl, ⟨hb, by rw [hok.1.d]; omega, fun a ha => by injection ha with ha; subst ha; exact hg2⟩, hok.1, hok.2, hg1, hf⟩
/-- A record is put behind the others. -/
theorem Und.append (h : Und w f l d pages cur L S T lot RL RD N) (a : Addr) (c : Nat) (b : List UInt8) (hb : BytesIn w (some a) b) (ha : a.block < w.heap.size) (hlen : b.length ≤ 2000) (hr : b.length + 16 ≤ L.room) (hN : N + 1 ≤ 400000) :
    Calls Tryz.prog 12 #[.pointer (some ⟨l, 0, none⟩), .slice (some a) b.length c] w fun e w' => e = .returned (.tuple #[.int .u64 L.next, .int .i64 0]) ∧ ∃ RL', Und w' f l d pages cur (L.add b) S T lot RL' RD (N + 1) ∧ (∀ x, RL' x → RL x ∨ w.heap.size ≤ x) ∧ Fr RL w w' := by
  have h1 := h.good.fin
  have h2 := h.good.next
  have h3 := h.good.nx
  have h4 := h.good.room
  refine (Append_good a c b h.log hb ha hlen hr (by omega) (by omega) (by omega) (by omega)).mono ?_
  rintro e w' ⟨rfl, hl, hf⟩
  refine ⟨rfl, Ext RL w w', ?_, fun x hx => hx.elim .inl (fun h => .inr h.1), hf⟩
  exact { h with
    file := h.file.fr hf (fun e => (h.ap3 f e).2 rfl)
    log := hl
    disk := h.disk.fr hf (fun x hx e => (h.ap3 x e).1 hx)
    good := h.good.add b hlen hN
    ap3 := fun x hx => by
      rcases hx with hx | hx
      · exact h.ap3 x hx
      · exact ⟨fun hd => by have := h.disk.lt hd; omega, fun e => by have := h.flt; omega⟩ }
end
end Go.Proofs.YtccmmnacejdeoaaGreatDoor

/-
  copied: a page as new memory.
-/
namespace Go.Proofs.YtccmmnacejdeoaaGreatDoor
set_option linter.unusedSimpArgs false
set_option linter.unusedVariables false
open Go.RowKit

theorem results_cell_row1 {P : Program} {fn : Func} {p : Tmp} {ty : TypeId} (h : fn.results = #[.cell p ty]) (tmps : Array Value) (w : World) (g : Nat) (t : TypeId) (cs : Array Value) (d : TypeDesc)
    (hp : tmps.getD p undef = .pointer (some ⟨g, 0, none⟩)) (hg : Blk w g t cs)
    (hu : P.underlying ty = some d) (hd : (match d with | .struct _ | .array _ _ => true | _ => false) = true) (hi : (P.info? ty).map (·.size) = some cs.size) :
    (results fn tmps).run P w = .ok (.agg cs) w := by
  have hp' : tmps[p]?.getD undef = .pointer (some ⟨g, 0, none⟩) := by simpa using hp
  simp [results, h, hp', asAddr, run_loadVar_row w g t ty cs (0, 0) d hg hu hd hi, Sem.run_bind, Result.andThen]
/-- A page's bytes in new memory, in a block that nothing else has. -/
def CopyIn (w : World) (g : Nat) (d : List UInt8) : Prop := ∃ cs, Blk w g 5 cs ∧ d.length ≤ cs.size ∧ cs.toList.take d.length = bts d
theorem CopyIn.bytes {w : World} {g : Nat} {d : List UInt8} (h : CopyIn w g d) : BytesIn w (some ⟨g, 0, none⟩) d := by
  obtain ⟨cs, hb, _, e⟩ := h
  intro _
  refine ⟨g, 0, rfl, fun j x hx => ?_⟩
  rw [Nat.zero_add, hb.cell j]
  have hj := (List.getElem?_eq_some_iff.1 hx).1
  have : (cs.toList.take d.length)[j]? = (bts d)[j]? := by rw [e]
  rw [List.getElem?_take, if_pos hj, Array.getElem?_toList, bts_get, hx] at this
  exact this
theorem CopyIn.lt {w : World} {g : Nat} {d : List UInt8} (h : CopyIn w g d) : g < w.heap.size := by
  obtain ⟨cs, hb, _⟩ := h
  exact hb.lt
theorem CopyIn.fr {F : Nat → Prop} {w w' : World} {g : Nat} {d : List UInt8} (h : CopyIn w g d) (hf : Fr F w w') (hg : ¬ F g) : CopyIn w' g d := by
  obtain ⟨cs, hb, r⟩ := h
  exact ⟨cs, hb.fr hf hg, r⟩
theorem CopyIn.bsl {w : World} {g : Nat} {d : List UInt8} (h : CopyIn w g d) (c : Nat) (hc : d.length ≤ c) : Bsl w (some ⟨g, 0, none⟩) c d :=
  ⟨h.bytes, hc, fun a ha => by injection ha with ha; subst ha; exact h.lt⟩

set_option maxHeartbeats 1600000 in
theorem copied_any {w : World} (no lsn : Int) (kb ko c : Nat) (d : List UInt8) (h : Bsl w (some ⟨kb, ko, none⟩) c d) (hd : d.length = 480) :
    Calls Tryz.prog 24 #[.agg #[.int .i64 no, .int .u64 lsn, .slice (some ⟨kb, ko, none⟩) 480 c]] w fun e w' => ∃ g, e = .returned (.agg #[.int .i64 no, .int .u64 lsn, .slice (some ⟨g, 0, none⟩) 480 480]) ∧ CopyIn w' g d ∧ w.heap.size ≤ g ∧ Fr Nob w w' := by
  have qB := len_by
  obtain ⟨gr, hgr⟩ : ∃ g, w.heap.size = g := ⟨_, rfl⟩
  have HGr := Lib.hid hgr
  have hf1 : Fr Nob w ((w.alloc (.cells #[.int .i64 no, .int .u64 lsn, .slice (some ⟨kb, ko, none⟩) 480 c] 40)).alloc (.cells #[.int .i64 0, .int .u64 0, .slice none 0 0] 40)) := ((Fr.refl _ w).alloc _).alloc _
  have hb1 : Blk ((w.alloc (.cells #[.int .i64 no, .int .u64 lsn, .slice (some ⟨kb, ko, none⟩) 480 c] 40)).alloc (.cells #[.int .i64 0, .int .u64 0, .slice none 0 0] 40)) gr 40 #[.int .i64 no, .int .u64 lsn, .slice (some ⟨kb, ko, none⟩) 480 c] := by rw [← hgr]; exact (Blk.new _ _ _).alloc _
  have hb2 : Blk ((w.alloc (.cells #[.int .i64 no, .int .u64 lsn, .slice (some ⟨kb, ko, none⟩) 480 c] 40)).alloc (.cells #[.int .i64 0, .int .u64 0, .slice none 0 0] 40)) (gr + 1) 40 #[.int .i64 0, .int .u64 0, .slice none 0 0] := by
    have := Blk.new (w.alloc (.cells #[.int .i64 no, .int .u64 lsn, .slice (some ⟨kb, ko, none⟩) 480 c] 40)) 40 #[.int .i64 0, .int .u64 0, .slice none 0 0]
    simp at this
    rwa [hgr] at this
  have hB := h.new hf1
  obtain ⟨wa, hwa⟩ : ∃ W, (w.alloc (.cells #[.int .i64 no, .int .u64 lsn, .slice (some ⟨kb, ko, none⟩) 480 c] 40)).alloc (.cells #[.int .i64 0, .int .u64 0, .slice none 0 0] 40) = W := ⟨_, rfl⟩
  rw [hwa] at hf1 hb1 hb2 hB
  have HF1 := Lib.hid hf1
  have HB1 := Lib.hid hb1
  have HB2 := Lib.hid hb2
  have hcl := bytesClone_cut (w := wa) ⟨kb, ko, none⟩ c d hB.h (hB.lt _ rfl) (by omega)
  rw [hd] at hcl
  have HCl := Lib.hid hcl
  have HD := Lib.hid hd
  have d0 := hb1.cell 2
  have z1 := hb1.lt
  have z2 := hb2.lt
  simp only [List.getElem?_toArray, List.getElem?_cons_zero, List.getElem?_cons_succ] at d0
  clear h hf1 hb1 hb2 hB hcl hd
  go_enter Tryz.func24, Tryz.ntmps24
  go_wp2_with fail
  refine HCl.out.mono ?_
  rintro e w1 ⟨g1, cp1, rfl, ho1, hf1⟩
  have hb1 := HB1.out.fr hf1 (fun h => h)
  have HBa := Lib.hid hb1
  have HBb := Lib.hid (HB2.out.fr hf1 (fun h => h))
  have e0 := hb1.cell 0
  have e1 := hb1.cell 1
  have e3 := hb1.cell 2
  have q0 := hb1.frozen 2
  have y1 := hb1.lt
  have y2 := HBb.out.lt
  have hg1 := ho1.lt g1 rfl
  have HCp : Hid (CopyIn w1 g1 d) := by
    rcases ho1.2 with ⟨e, _⟩ | ⟨g, cap, cur, e, _, hh, hc1, hc2, hc3, hc4⟩
    · simp at e
    · simp only [Value.slice.injEq, Option.some.injEq, Addr.mk.injEq, and_true, true_and] at e
      obtain ⟨rfl, rfl⟩ := e
      exact ⟨cur, hh, by rw [HD.out, hc3]; omega, by rw [HD.out]; simpa using hc4⟩
  have HFa := Lib.hid (HF1.out.trans hf1)
  have hcap : 480 ≤ cp1 := by
    rcases ho1.2 with ⟨e, _⟩ | ⟨g, cap, cur, e, _, hh, hc1, _⟩
    · simp at e
    · simp only [Value.slice.injEq, Option.some.injEq, Addr.mk.injEq, and_true, true_and] at e
      obtain ⟨rfl, rfl⟩ := e
      exact hc1
  have b0 := HBb.out.cell 0
  have b1 := HBb.out.cell 1
  have b2 := HBb.out.cell 2
  have r0 := HBb.out.frozen 0
  have r1 := HBb.out.frozen 1
  have r2 := HBb.out.frozen 2
  simp only [List.getElem?_toArray, List.getElem?_cons_zero, List.getElem?_cons_succ] at e0 e1 e3 b0 b1 b2
  clear hb1 hf1 ho1 HCl hwa d0
  have hbc : Blk (w1.setCell ⟨gr, 2, none⟩ (.slice (some ⟨g1, 0, none⟩) 480 cp1)) gr 40 #[.int .i64 no, .int .u64 lsn, .slice (some ⟨g1, 0, none⟩) 480 cp1] := HBa.out.set_ 2 _
  have HBc := Lib.hid hbc
  have e2 := hbc.cell 2
  have q2 := hbc.frozen 2
  simp only [List.getElem?_toArray, List.getElem?_cons_zero, List.getElem?_cons_succ] at e2
  clear hbc
  go_wp2
  have hfE : Fr (fun x => x = gr ∨ x = gr + 1) w1 (((((w1.setCell ⟨gr, 2, none⟩ (.slice (some ⟨g1, 0, none⟩) 480 cp1)).setCell ⟨gr, 2, none⟩ (.slice (some ⟨g1, 0, none⟩) 480 480)).setCell ⟨gr + 1, 0, none⟩ (.int .i64 no)).setCell ⟨gr + 1, 1, none⟩ (.int .u64 lsn)).setCell ⟨gr + 1, 2, none⟩ (.slice (some ⟨g1, 0, none⟩) 480 480)) :=
    (((((Fr.refl (fun x => x = gr ∨ x = gr + 1) w1).setCell (p := ⟨gr, 2, none⟩) (.inr (.inl rfl)) _).setCell (p := ⟨gr, 2, none⟩) (.inr (.inl rfl)) _).setCell (p := ⟨gr + 1, 0, none⟩) (.inr (.inr rfl)) _).setCell (p := ⟨gr + 1, 1, none⟩) (.inr (.inr rfl)) _).setCell (p := ⟨gr + 1, 2, none⟩) (.inr (.inr rfl)) _
  have hbE : Blk (((((w1.setCell ⟨gr, 2, none⟩ (.slice (some ⟨g1, 0, none⟩) 480 cp1)).setCell ⟨gr, 2, none⟩ (.slice (some ⟨g1, 0, none⟩) 480 480)).setCell ⟨gr + 1, 0, none⟩ (.int .i64 no)).setCell ⟨gr + 1, 1, none⟩ (.int .u64 lsn)).setCell ⟨gr + 1, 2, none⟩ (.slice (some ⟨g1, 0, none⟩) 480 480)) (gr + 1) 40 #[.int .i64 no, .int .u64 lsn, .slice (some ⟨g1, 0, none⟩) 480 480] :=
    ((((HBb.out.far (p := ⟨gr, 2, none⟩) (by show gr + 1 ≠ gr; omega) _).far (p := ⟨gr, 2, none⟩) (by show gr + 1 ≠ gr; omega) _).set_ 0 _).set_ 1 _).set_ 2 _
  refine bodyPost_ret (results_cell_row1 rfl _ _ _ _ _ _ rfl hbE Tryz.underlying40 rfl page_size) rfl ⟨g1, rfl, HCp.out.fr hfE (fun h => by omega), by have := HFa.out.size; have := HGr.out; omega, HFa.out.step hfE (fun i hi h => by have := HGr.out; omega)⟩
end Go.Proofs.YtccmmnacejdeoaaGreatDoor

/-
  Single operations on a pool's map and frames, as a region that draws its order meets them.
-/
namespace Go.Proofs.YtccmmnacejdeoaaGreatDoor
set_option linter.unusedSimpArgs false
set_option linter.unusedVariables false
open Go.RowKit Go.Maps

theorem rangeAt_of {w : World} {b o : Nat} {t : TypeId} {cs : Array Value} (h : Blk w b t cs) (l : List Value) (hl : ∀ (j : Nat) v, l[j]? = some v → cs[o + j]? = some v) : w.rangeAt b o l := fun j v hv => by
  rw [h.cell]; exact hl j v hv
theorem op_load_mid {P : Program} {o : Oper} {a : Act} {w : World} (ty : TypeId) (x : Operand) (ho : o.op = .load ty x) (b k : Nat) (hx : a.eval x = .pointer (some ⟨b, k, none⟩)) (cs : List Value) (d : TypeDesc) (hc : w.rangeAt b k cs)
    (hu : P.underlying ty = some d) (hd : d.isRow = true) (hi : (P.info? ty).map (·.size) = some cs.length) : (execOp a.eval o).run P w = .ok (.value (.agg cs.toArray)) w := by
  unfold execOp
  simp only [ho, hx, run_loadAt_mid w b k ty cs d hc hu hd hi, Sem.run_bind, Sem.run_pure, Result.andThen_ok]
section
variable {P : Program} {o : Oper} {a : Act} {w : World}
theorem op_fr_get (m x : Operand) (t : TypeId) (hop : o.op = Op.lookup t m x false)
    (k e : TypeId) (K : Keyed P k) (ht : P.underlying t = some (.map k e)) (hz : (zeroValue e).run P w = .ok (.pointer none) w) (B n : Nat) (f : Int → Option Nat)
    (hm : a.eval m = .map (some B)) (hown : FrMap w P k B n f) (y : Int) (hx : a.eval x = .int .i64 y) (hkey : keyOf P k (.int .i64 y) = some (.int .i64 y)) :
    (execOp a.eval o).run P w = .ok (.value (ptrOf (f y))) w := by
  obtain ⟨D, hD, hsz, hf⟩ := hown
  obtain ⟨v, ps, hrun, hat⟩ := hD.lookup K ht hz (zd := litOf none) (zp := []) rfl hkey
  rw [(hf y).1] at hat
  obtain rfl := frR_of hat
  simp [execOp, hop, hm, hx, hrun, Result.andThen]
theorem op_fr_ok (m x : Operand) (t : TypeId) (hop : o.op = Op.lookup t m x true)
    (k e : TypeId) (K : Keyed P k) (ht : P.underlying t = some (.map k e)) (hz : (zeroValue e).run P w = .ok (.pointer none) w) (B n : Nat) (f : Int → Option Nat)
    (hm : a.eval m = .map (some B)) (hown : FrMap w P k B n f) (y : Int) (hx : a.eval x = .int .i64 y) (hkey : keyOf P k (.int .i64 y) = some (.int .i64 y)) :
    (execOp a.eval o).run P w = .ok (.value (.tuple #[ptrOf (f y), .bool (f y).isSome])) w := by
  obtain ⟨D, hD, hsz, hf⟩ := hown
  obtain ⟨v, ps, hrun, hat⟩ := hD.look_ok K ht hz (zd := litOf none) (zp := []) rfl hkey
  rw [(hf y).1] at hat
  obtain rfl := frR_of hat
  rw [(hf y).2] at hrun
  simp [execOp, hop, hm, hx, hrun, Result.andThen]
theorem op_fr_put (m x v : Operand) (t : TypeId) (hop : o.op = Op.mapUpdate t m x v)
    (k e : TypeId) (K : Keyed P k) (ht : P.underlying t = some (.map k e)) (B n : Nat) (f : Int → Option Nat) (hn : n < maxLen)
    (hm : a.eval m = .map (some B)) (hown : FrMap w P k B n f) (y : Int) (hx : a.eval x = .int .i64 y) (hkey : keyOf P k (.int .i64 y) = some (.int .i64 y)) (hkl : WideAt.IsKeyLit (.int .i64 y)) (b : Nat) (hv : a.eval v = .pointer (some ⟨b, 0, none⟩)) (hfy : f y = none) :
    ∃ w', (execOp a.eval o).run P w = .ok .skip w' ∧ FrMap w' P k B (n + 1) (upd f y (some b)) ∧ w.grownBy w' (some B) := by
  obtain ⟨D, hD, hsz, hf⟩ := hown
  obtain ⟨w', hrun, h1, h2⟩ := hD.update K ht hn (key := .int .i64 y) (val := .pointer (some ⟨b, 0, none⟩)) (d := litOf (some b)) (ps := []) hkey rfl
  exact ⟨w', by simp [execOp, hop, hm, hx, hv, hrun, Result.andThen], FrMap.putM K hD hsz hf y hkl b hfy h1, h2⟩
end
section
variable {P : Program} {w : World} {k B n : Nat} {f : Int → Option Nat}
theorem FrMap.run_get (h : FrMap w P k B n f) {t e : TypeId} (K : Keyed P k) (ht : P.underlying t = some (.map k e)) (hz : (zeroValue e).run P w = .ok (.pointer none) w) (y : Int) (hkey : keyOf P k (.int .i64 y) = some (.int .i64 y)) :
    (Instr.lookup t (.map (some B)) (.int .i64 y) false).run P w = .ok (ptrOf (f y)) w := by
  obtain ⟨D, hD, hsz, hf⟩ := h
  obtain ⟨v, ps, hrun, hat⟩ := hD.lookup K ht hz (zd := litOf none) (zp := []) rfl hkey
  rw [(hf y).1] at hat
  obtain rfl := frR_of hat
  exact hrun
theorem FrMap.run_ok (h : FrMap w P k B n f) {t e : TypeId} (K : Keyed P k) (ht : P.underlying t = some (.map k e)) (hz : (zeroValue e).run P w = .ok (.pointer none) w) (y : Int) (hkey : keyOf P k (.int .i64 y) = some (.int .i64 y)) :
    (Instr.lookup t (.map (some B)) (.int .i64 y) true).run P w = .ok (.tuple #[ptrOf (f y), .bool (f y).isSome]) w := by
  obtain ⟨D, hD, hsz, hf⟩ := h
  obtain ⟨v, ps, hrun, hat⟩ := hD.look_ok K ht hz (zd := litOf none) (zp := []) rfl hkey
  rw [(hf y).1] at hat
  obtain rfl := frR_of hat
  rw [(hf y).2] at hrun
  exact hrun
theorem FrMap.run_put (h : FrMap w P k B n f) {t e : TypeId} (K : Keyed P k) (ht : P.underlying t = some (.map k e)) (hn : n < maxLen) (y : Int) (hkey : keyOf P k (.int .i64 y) = some (.int .i64 y)) (hkl : WideAt.IsKeyLit (.int .i64 y)) (b : Nat) (hfy : f y = none) :
    ∃ w', (Instr.mapUpdate t (.map (some B)) (.int .i64 y) (.pointer (some ⟨b, 0, none⟩))).run P w = .ok () w' ∧ FrMap w' P k B (n + 1) (upd f y (some b)) ∧ w.grownBy w' (some B) := by
  obtain ⟨D, hD, hsz, hf⟩ := h
  obtain ⟨w', hrun, h1, h2⟩ := hD.update K ht hn (key := .int .i64 y) (val := .pointer (some ⟨b, 0, none⟩)) (d := litOf (some b)) (ps := []) hkey rfl
  exact ⟨w', hrun, FrMap.putM K hD hsz hf y hkl b hfy h1, h2⟩
end
/-- What a map holds, one way or the other. -/
theorem FrMap.cast {w : World} {P : Program} {k : TypeId} {B n m : Nat} {f g : Int → Option Nat} (h : FrMap w P k B n f) (hn : n = m) (hf : f = g) : FrMap w P k B m g := by
  subst hn hf; exact h
end Go.Proofs.YtccmmnacejdeoaaGreatDoor
