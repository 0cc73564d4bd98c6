/-
  Ops5, Ops5Open, PoolUnd, Pool4, PoolRun, Pool2, in one text.
-/
import Derived.Test.YtccmmnacejdeoaaGreatDoorMg23
import Derived.Test.YtccmmnacejdeoaaGreatDoorMg05
import Derived.Deep.Slices
import Derived.Deep.Fields
import Derived.ChangeSame
import Derived.SizedLaws
import Derived.Test.YtccmmnacejdeoaaGreatDoorMg13
import Derived.Test.YtccmmnacejdeoaaGreatDoorMg10
import Derived.Test.YtccmmnacejdeoaaGreatDoorMg02
import Derived.Test.YtccmmnacejdeoaaGreatDoorMg08
import Derived.Deep.MidRow
/-
  A script of three numbers each, as its cells; masks of ints.
-/
namespace Go.Proofs.YtccmmnacejdeoaaGreatDoor
set_option linter.unusedSimpArgs false
set_option linter.unusedVariables false
open Go.RowKit Go.Maps

/-- The cells of a script. -/
def Ops5In (w : World) (A : Option Addr) (os : List (Int × Int × Int)) : Prop := 0 < os.length → ∃ g o, A = some ⟨g, o, none⟩ ∧ ∀ j x, os[j]? = some x → w.cell? ⟨g, o + j * 3, none⟩ = some (.int .i64 x.1) ∧ w.cell? ⟨g, o + j * 3 + 1, none⟩ = some (.int .i64 x.2.1) ∧ w.cell? ⟨g, o + j * 3 + 2, none⟩ = some (.int .i64 x.2.2)
theorem Ops5In.new {w w' : World} {A : Option Addr} {os : List (Int × Int × Int)} (h : Ops5In w A os) (hf : Fr Nob w w') : Ops5In w' A os := fun h0 => by
  obtain ⟨g, o, rfl, hc⟩ := h h0
  refine ⟨g, o, rfl, fun j x hx => ?_⟩
  obtain ⟨c0, c1, c2⟩ := hc j x hx
  have hl : g < w.heap.size := cell_lt c0
  exact ⟨(hf.cell (p := ⟨g, o + j * 3, none⟩) hl (fun h => h)).trans c0, (hf.cell (p := ⟨g, o + j * 3 + 1, none⟩) hl (fun h => h)).trans c1, (hf.cell (p := ⟨g, o + j * 3 + 2, none⟩) hl (fun h => h)).trans c2⟩
theorem len_ops5 (w : World) (A : Option Addr) (n c : Nat) : (Builtin.len_ #[46] 3 #[Value.slice A n c]).run Tryz.prog w = .ok (.int .i64 n) w := by go_simp
theorem andK (n : Int) (m : Int) (k : Nat) (hm : (BitVec.ofInt 64 m).toNat = 2 ^ k - 1) (hk : (2 : Nat) ^ k ∣ 2 ^ 64) (hk2 : (2 : Nat) ^ k ≤ 2 ^ 62) : ∃ q : Nat, bits .and .i64 n m = (q : Int) ∧ q < 2 ^ k := by
  have := i64_mask n m k hm hk hk2
  have hp : (0 : Int) < ((2 ^ k : Nat) : Int) := by have := Nat.two_pow_pos k; omega
  have h0 := Int.emod_nonneg n (Int.ne_of_gt hp)
  have h1 := Int.emod_lt_of_pos n hp
  exact ⟨(n % ((2 ^ k : Nat) : Int)).toNat, by rw [this]; omega, by omega⟩
end Go.Proofs.YtccmmnacejdeoaaGreatDoor

/-
  A script of three numbers each that came in, opened to its cells.
-/
namespace Go.Proofs.YtccmmnacejdeoaaGreatDoor
set_option linter.unusedSimpArgs false
set_option linter.unusedVariables false
open Go.ChangeShapes Go.WideShapes Go.Deep Go.RowKit

section
variable {H : Type} {enc : TypeId × Value → H} {w : World} {base : Nat}

set_option maxRecDepth 100000 in
theorem op5_of {fuel : Nat} {cs : List Value} {x : DataW H × List MemPlace} (h : DataW.trod enc Tryz.prog w base (fun _ => true) true fuel 48 cs = some x) :
    ∃ a b c : Int, cs = [.int .i64 a, .int .i64 b, .int .i64 c] := by
  have hs := Tryz.underlying48
  obtain ⟨xs, n, _, hx, hlen, hxl, hf⟩ := DataW.trod_struct hs h
  have hC : Tryz.prog.cellsOf 48 = 3 := by kernel_rfl
  have k2 : Tryz.prog.cellsOf 3 = 1 := by kernel_rfl
  rw [hC] at hlen
  match cs, hlen, xs, hxl with
  | [v0, v1, v2], _, [y0, y1, y2], _ =>
    have f0 : DataW.trod enc Tryz.prog w base (fun _ => true) true n 3 [v0] = some y0 := by simpa [k2] using hf 0 _ rfl
    have f1 : DataW.trod enc Tryz.prog w base (fun _ => true) true n 3 [v1] = some y1 := by simpa [k2] using hf 1 _ rfl
    have f2 : DataW.trod enc Tryz.prog w base (fun _ => true) true n 3 [v2] = some y2 := by simpa [k2] using hf 2 _ rfl
    obtain ⟨i0, e0, _, w0⟩ := DataW.trod_int Tryz.underlying3 f0
    obtain ⟨i1, e1, _, w1⟩ := DataW.trod_int Tryz.underlying3 f1
    obtain ⟨i2, e2, _, w2⟩ := DataW.trod_int Tryz.underlying3 f2
    simp only [List.cons.injEq, and_true] at e0 e1 e2
    subst e0 e1 e2
    exact ⟨i0, i1, i2, rfl⟩

set_option maxRecDepth 100000 in
theorem open_ops5 {fuel : Nat} {a : Option Addr} {len cap : Nat} {x : DataW H × List MemPlace} (h : DataW.trod enc Tryz.prog w base (fun _ => true) true fuel 46 [.slice a len cap] = some x) : ∃ os : List (Int × Int × Int), os.length = len ∧ Ops5In w a os := by
  have hC : Tryz.prog.cellsOf 48 = 3 := by kernel_rfl
  rcases open_slice Tryz.underlying46 h with ⟨hcs, _⟩ | ⟨a', len', cap', m, n, D, Pl, hcs, _, hl, hm, hmm, hx, hi⟩
  · simp only [List.cons.injEq, Value.slice.injEq, and_true] at hcs
    obtain ⟨rfl, rfl, rfl⟩ := hcs
    exact ⟨[], rfl, fun h => absurd h (by simp)⟩
  · simp only [List.cons.injEq, Value.slice.injEq, and_true] at hcs
    obtain ⟨rfl, rfl, rfl⟩ := hcs
    simp only [if_true] at hmm
    subst hmm hx
    rw [hC] at hi
    have key : ∀ i, i < len → ∃ o : Int × Int × Int, w.cells? base (a'.add (i * 3)) 3 = some [.int .i64 o.1, .int .i64 o.2.1, .int .i64 o.2.2] := by
      intro i hi'
      obtain ⟨cs', hc, ht⟩ := hi i (by omega)
      obtain ⟨a, b, c, e⟩ := op5_of ht
      exact ⟨(a, b, c), by rw [hc, e]⟩
    have hchoice : ∃ f : Nat → Int × Int × Int, ∀ i, i < len → w.cells? base (a'.add (i * 3)) 3 = some [.int .i64 (f i).1, .int .i64 (f i).2.1, .int .i64 (f i).2.2] := by
      refine ⟨fun i => if h : i < len then Classical.choose (key i h) else (0, 0, 0), fun i h => ?_⟩
      simp only [dif_pos h]
      exact Classical.choose_spec (key i h)
    obtain ⟨f, hf⟩ := hchoice
    refine ⟨(List.range len).map f, by simp, fun h0 => ?_⟩
    have h0' : 0 < len := by simpa using h0
    obtain ⟨b, off, spot⟩ := a'
    have hat : ∀ i, i < len → ∀ j v, [Value.int .i64 (f i).1, .int .i64 (f i).2.1, .int .i64 (f i).2.2][j]? = some v → w.cell? (((⟨b, off, spot⟩ : Addr).add (i * 3)).add j) = some v := by
      intro i hi' j v hv
      obtain ⟨_, hcl, hcat⟩ := World.cells?_some (hf i hi')
      have hj := (List.getElem?_eq_some_iff.1 hv).1
      rw [hcat j (by simpa using hj)]
      exact hv
    have hspot : spot = none := by
      have := hat 0 h0' 0 _ rfl
      simpa [Addr.add] using World.cell?_spot this
    subst hspot
    refine ⟨b, off, rfl, fun j x hx => ?_⟩
    have hj : j < len := by have := (List.getElem?_eq_some_iff.1 hx).1; simpa using this
    have ex : x = f j := by
      rw [List.getElem?_map, List.getElem?_range hj] at hx
      exact (Option.some.inj hx).symm
    subst ex
    have ha : ∀ k, ((⟨b, off, none⟩ : Addr).add (j * 3)).add k = ⟨b, off + j * 3 + k, none⟩ := by
      intro k; rw [add_plain, add_plain]
    have g := hat j hj
    refine ⟨?_, ?_, ?_⟩
    · have := g 0 _ rfl; rwa [ha] at this
    · have := g 1 _ rfl; rwa [ha] at this
    · have := g 2 _ rfl; rwa [ha] at this
end
end Go.Proofs.YtccmmnacejdeoaaGreatDoor

/-
  What lies under a pool: a file and a log on one disk that nothing threatens; the calls of the pool on them.
-/
namespace Go.Proofs.YtccmmnacejdeoaaGreatDoor
set_option linter.unusedSimpArgs false
set_option linter.unusedVariables false
open Go.RowKit

theorem pgOf_at {now : List (List UInt8)} {at0 pages T : Nat} {lot : List PgV} {cur : Nat → Option PgV} (h : PSt now at0 pages T lot cur) (no : Nat) (hno : no < pages) : pgAt now at0 no = pgOf (cur no) no := by
  rw [pgAt_cur h no hno]
  unfold pgOf
  cases cur no <;> rfl
structure Und (w : World) (f l d pages : Nat) (cur : Nat → Option PgV) (L : LS) (S : DS) (T : Nat) (lot : List PgV) (RL RD : Nat → Prop) (N : Nat) : Prop where
  file : FileAt w f d 0 pages T
  log : LogOk RL w l d L
  disk : DiskOk RD w d S
  still : Still S
  ps : PSt S.now 0 pages T lot cur
  good : LogGood L N
  fit1 : 8 * pages + 80 ≤ L.start
  fit2 : L.start + L.n ≤ S.now.length
  n16 : 16 ≤ L.n
  pg1 : 1 ≤ pages
  pg2 : pages ≤ 4096
  ap3 : ∀ b, RL b → ¬ RD b ∧ b ≠ f
  ap4 : ¬ RD f
section
variable {w w' : World} {f l d pages : Nat} {cur : Nat → Option PgV} {L : LS} {S : DS} {T : Nat} {lot : List PgV} {RL RD F : Nat → Prop} {N : Nat}
theorem Und.fr (h : Und w f l d pages cur L S T lot RL RD N) (hf : Fr F w w') (h1 : ∀ b, RL b → ¬ F b) (h2 : ∀ b, RD b → ¬ F b) (h3 : ¬ F f) : Und w' f l d pages cur L S T lot RL RD N :=
  { h with
    file := h.file.fr hf h3
    log := h.log.fr hf h1
    disk := h.disk.fr hf h2 }
theorem Und.new (h : Und w f l d pages cur L S T lot RL RD N) (hf : Fr Nob w w') : Und w' f l d pages cur L S T lot RL RD N := h.fr hf (fun _ _ h => h) (fun _ _ h => h) (fun h => h)
theorem Und.flt (h : Und w f l d pages cur L S T lot RL RD N) : f < w.heap.size := Blk.lt h.file
theorem Und.wal (h : Und w f l d pages cur L S T lot RL RD N) : WalIn w l d L S RL RD := ⟨h.log, h.disk, fun b hb => (h.ap3 b hb).1, h.fit2⟩
/-- The log is flushed. -/
theorem Und.flush (h : Und w f l d pages cur L S T lot RL RD N) :
    Calls Tryz.prog 50 #[.pointer (some ⟨l, 0, none⟩)] w fun e w' => e = .returned (.int .i64 0) ∧ ∃ L' S' RD', Und w' f l d pages cur L' S' T lot RL RD' N ∧ LSame L L' ∧ (∀ b, RD' b → RD b ∨ w.heap.size ≤ b) ∧ Fr (fun b => RL b ∨ RD b) w w' := by
  refine (Flush_still h.wal h.good h.still h.n16).mono ?_
  rintro e w' ⟨rfl, L', S', RD', hw, hs, hg, hst, hlen, hag, hsub, hf⟩
  have hln := h.ps.len
  refine ⟨rfl, L', S', RD', ?_, hs, hsub, hf⟩
  exact { h with
    file := h.file.fr hf (fun e => by
      rcases e with e | e
      · exact (h.ap3 f e).2 rfl
      · exact h.ap4 e)
    log := hw.l
    disk := hw.d
    still := hst
    ps := h.ps.agree (fun j s hj => hw.d.len64 hj) hlen (fun j _ hj => hag j (.inl (by have := h.fit1; omega)))
    good := hg
    fit1 := by rw [hs.start]; exact h.fit1
    fit2 := by rw [hs.start, hs.n, hlen]; exact h.fit2
    n16 := by rw [hs.n]; exact h.n16
    ap3 := fun b hb => ⟨fun hd => hw.apart b hb hd, (h.ap3 b hb).2⟩
    ap4 := fun hd => by
      rcases hsub f hd with e | e
      · exact h.ap4 e
      · have := h.flt; omega }
/-- Pages are written. -/
theorem Und.write (h : Und w f l d pages cur L S T lot RL RD N) (A : Option Addr) (c : Nat) (xs : List (PgV × Value)) (hl : PgsIn (fun b => RD b ∨ b = f) w A xs) (hok : ∀ x ∈ xs, x.1.Ok ∧ x.1.no < pages) (hn0 : 0 < xs.length) (hn : xs.length ≤ 8)
    (hdis : ∀ (i j : Nat) x y, xs[i]? = some x → xs[j]? = some y → x.1.no = y.1.no → i = j) (hT : T + 1 < 4611686018427387904) :
    Calls Tryz.prog 51 #[.pointer (some ⟨f, 0, none⟩), .slice A xs.length c] w fun e w' => e = .returned (.int .i64 0) ∧ ∃ S' RD', Und w' f l d pages (curW cur (xs.map (·.1)) xs.length) L S' (T + 1) (xs.map (·.1)) RL RD' N ∧ (∀ b, RD' b → RD b ∨ w.heap.size ≤ b) ∧ Fr (fun b => RD b ∨ b = f) w w' := by
  have hpg := h.pg2
  refine (write_now A c xs h.file h.ap4 h.disk h.still h.ps hl hok hn0 hn hdis (by omega) (by omega) hT).mono ?_
  rintro e w' ⟨S', rfl, hnow, hd', hst', hps', hfa', hfr⟩
  have hfr2 : Fr (fun b => RD b ∨ b = f) w w' := hfr.mono (fun b _ hb => hb.elim (fun h => .inl h.1) .inr)
  have hln := h.ps.len
  have hlen : S'.now.length = S.now.length := by rw [hnow, wrote_length]
  refine ⟨rfl, S', Ext RD w w', ?_, fun b hb => hb.elim .inl (fun h => .inr h.1), hfr2⟩
  exact { h with
    file := hfa'
    log := h.log.fr hfr2 (fun b hb e => by
      rcases e with e | e
      · exact (h.ap3 b hb).1 e
      · exact (h.ap3 b hb).2 e)
    disk := hd'
    still := hst'
    ps := hps'
    fit2 := by rw [hlen]; exact h.fit2
    ap3 := fun b hb => ⟨fun hd => by
      rcases hd with hd | hd
      · exact (h.ap3 b hb).1 hd
      · have := h.log.lt hb; omega, (h.ap3 b hb).2⟩
    ap4 := fun hd => by
      rcases hd with hd | hd
      · exact h.ap4 hd
      · have := h.flt; omega }
/-- A page is read. -/
theorem Und.read (h : Und w f l d pages cur L S T lot RL RD N) (no : Nat) (hno : no < pages) :
    Calls Tryz.prog 15 #[.pointer (some ⟨f, 0, none⟩), .int .i64 no] w fun e w' => ∃ g o, e = .returned (.tuple #[.agg #[.int .i64 no, .int .u64 (pgOf (cur no) no).lsn, .slice (some ⟨g, o, none⟩) 480 480], .int .i64 0]) ∧ Bsl w' (some ⟨g, o, none⟩) 480 (pgOf (cur no) no).d ∧ (pgOf (cur no) no).Ok ∧ (pgOf (cur no) no).no = no ∧ w.heap.size ≤ g ∧ Fr Nob w w' := by
  refine (pgRead_any no h.file h.disk h.still.calm.dead h.ps.sound hno).mono ?_
  rintro e w' ⟨g, o, rfl, hb, hg1, hg2, hf⟩
  rw [pgOf_at h.ps no hno] at hb ⊢
  have hok : (pgOf (cur no) no).Ok ∧ (pgOf (cur no) no).no = no := by
    cases hc : cur no with
    | none => exact ⟨⟨by show no < _; have := h.pg2; omega, by show 0 < _; omega, zeros_length 480⟩, rfl⟩
    | some x => exact h.ps.cok no x hno hc
  exact ⟨g, o, rfl, ⟨hb, by rw [hok.1.d]; omega, fun a ha => by injection ha with ha; subst ha; exact hg2⟩, hok.1, hok.2, hg1, hf⟩
/-- A record is put behind the others. -/
theorem Und.append (h : Und w f l d pages cur L S T lot RL RD N) (a : Addr) (c : Nat) (b : List UInt8) (hb : BytesIn w (some a) b) (ha : a.block < w.heap.size) (hlen : b.length ≤ 2000) (hr : b.length + 16 ≤ L.room) (hN : N + 1 ≤ 400000) :
    Calls Tryz.prog 12 #[.pointer (some ⟨l, 0, none⟩), .slice (some a) b.length c] w fun e w' => e = .returned (.tuple #[.int .u64 L.next, .int .i64 0]) ∧ ∃ RL', Und w' f l d pages cur (L.add b) S T lot RL' RD (N + 1) ∧ (∀ x, RL' x → RL x ∨ w.heap.size ≤ x) ∧ Fr RL w w' := by
  have h1 := h.good.fin
  have h2 := h.good.next
  have h3 := h.good.nx
  have h4 := h.good.room
  refine (Append_good a c b h.log hb ha hlen hr (by omega) (by omega) (by omega) (by omega)).mono ?_
  rintro e w' ⟨rfl, hl, hf⟩
  refine ⟨rfl, Ext RL w w', ?_, fun x hx => hx.elim .inl (fun h => .inr h.1), hf⟩
  exact { h with
    file := h.file.fr hf (fun e => (h.ap3 f e).2 rfl)
    log := hl
    disk := h.disk.fr hf (fun x hx e => (h.ap3 x e).1 hx)
    good := h.good.add b hlen hN
    ap3 := fun x hx => by
      rcases hx with hx | hx
      · exact h.ap3 x hx
      · exact ⟨fun hd => by have := h.disk.lt hd; omega, fun e => by have := h.flt; omega⟩ }
end
end Go.Proofs.YtccmmnacejdeoaaGreatDoor

/-
  copied: a page as new memory.
-/
namespace Go.Proofs.YtccmmnacejdeoaaGreatDoor
set_option linter.unusedSimpArgs false
set_option linter.unusedVariables false
open Go.RowKit

theorem results_cell_row1 {P : Program} {fn : Func} {p : Tmp} {ty : TypeId} (h : fn.results = #[.cell p ty]) (tmps : Array Value) (w : World) (g : Nat) (t : TypeId) (cs : Array Value) (d : TypeDesc)
    (hp : tmps.getD p undef = .pointer (some ⟨g, 0, none⟩)) (hg : Blk w g t cs)
    (hu : P.underlying ty = some d) (hd : (match d with | .struct _ | .array _ _ => true | _ => false) = true) (hi : (P.info? ty).map (·.size) = some cs.size) :
    (results fn tmps).run P w = .ok (.agg cs) w := by
  have hp' : tmps[p]?.getD undef = .pointer (some ⟨g, 0, none⟩) := by simpa using hp
  simp [results, h, hp', asAddr, run_loadVar_row w g t ty cs (0, 0) d hg hu hd hi, Sem.run_bind, Result.andThen]
/-- A page's bytes in new memory, in a block that nothing else has. -/
def CopyIn (w : World) (g : Nat) (d : List UInt8) : Prop := ∃ cs, Blk w g 5 cs ∧ d.length ≤ cs.size ∧ cs.toList.take d.length = bts d
theorem CopyIn.bytes {w : World} {g : Nat} {d : List UInt8} (h : CopyIn w g d) : BytesIn w (some ⟨g, 0, none⟩) d := by
  obtain ⟨cs, hb, _, e⟩ := h
  intro _
  refine ⟨g, 0, rfl, fun j x hx => ?_⟩
  rw [Nat.zero_add, hb.cell j]
  have hj := (List.getElem?_eq_some_iff.1 hx).1
  have : (cs.toList.take d.length)[j]? = (bts d)[j]? := by rw [e]
  rw [List.getElem?_take, if_pos hj, Array.getElem?_toList, bts_get, hx] at this
  exact this
theorem CopyIn.lt {w : World} {g : Nat} {d : List UInt8} (h : CopyIn w g d) : g < w.heap.size := by
  obtain ⟨cs, hb, _⟩ := h
  exact hb.lt
theorem CopyIn.fr {F : Nat → Prop} {w w' : World} {g : Nat} {d : List UInt8} (h : CopyIn w g d) (hf : Fr F w w') (hg : ¬ F g) : CopyIn w' g d := by
  obtain ⟨cs, hb, r⟩ := h
  exact ⟨cs, hb.fr hf hg, r⟩
theorem CopyIn.bsl {w : World} {g : Nat} {d : List UInt8} (h : CopyIn w g d) (c : Nat) (hc : d.length ≤ c) : Bsl w (some ⟨g, 0, none⟩) c d :=
  ⟨h.bytes, hc, fun a ha => by injection ha with ha; subst ha; exact h.lt⟩

set_option maxHeartbeats 1600000 in
theorem copied_any {w : World} (no lsn : Int) (kb ko c : Nat) (d : List UInt8) (h : Bsl w (some ⟨kb, ko, none⟩) c d) (hd : d.length = 480) :
    Calls Tryz.prog 24 #[.agg #[.int .i64 no, .int .u64 lsn, .slice (some ⟨kb, ko, none⟩) 480 c]] w fun e w' => ∃ g, e = .returned (.agg #[.int .i64 no, .int .u64 lsn, .slice (some ⟨g, 0, none⟩) 480 480]) ∧ CopyIn w' g d ∧ w.heap.size ≤ g ∧ Fr Nob w w' := by
  have qB := len_by
  obtain ⟨gr, hgr⟩ : ∃ g, w.heap.size = g := ⟨_, rfl⟩
  have HGr := Lib.hid hgr
  have hf1 : Fr Nob w ((w.alloc (.cells #[.int .i64 no, .int .u64 lsn, .slice (some ⟨kb, ko, none⟩) 480 c] 40)).alloc (.cells #[.int .i64 0, .int .u64 0, .slice none 0 0] 40)) := ((Fr.refl _ w).alloc _).alloc _
  have hb1 : Blk ((w.alloc (.cells #[.int .i64 no, .int .u64 lsn, .slice (some ⟨kb, ko, none⟩) 480 c] 40)).alloc (.cells #[.int .i64 0, .int .u64 0, .slice none 0 0] 40)) gr 40 #[.int .i64 no, .int .u64 lsn, .slice (some ⟨kb, ko, none⟩) 480 c] := by rw [← hgr]; exact (Blk.new _ _ _).alloc _
  have hb2 : Blk ((w.alloc (.cells #[.int .i64 no, .int .u64 lsn, .slice (some ⟨kb, ko, none⟩) 480 c] 40)).alloc (.cells #[.int .i64 0, .int .u64 0, .slice none 0 0] 40)) (gr + 1) 40 #[.int .i64 0, .int .u64 0, .slice none 0 0] := by
    have := Blk.new (w.alloc (.cells #[.int .i64 no, .int .u64 lsn, .slice (some ⟨kb, ko, none⟩) 480 c] 40)) 40 #[.int .i64 0, .int .u64 0, .slice none 0 0]
    simp at this
    rwa [hgr] at this
  have hB := h.new hf1
  obtain ⟨wa, hwa⟩ : ∃ W, (w.alloc (.cells #[.int .i64 no, .int .u64 lsn, .slice (some ⟨kb, ko, none⟩) 480 c] 40)).alloc (.cells #[.int .i64 0, .int .u64 0, .slice none 0 0] 40) = W := ⟨_, rfl⟩
  rw [hwa] at hf1 hb1 hb2 hB
  have HF1 := Lib.hid hf1
  have HB1 := Lib.hid hb1
  have HB2 := Lib.hid hb2
  have hcl := bytesClone_cut (w := wa) ⟨kb, ko, none⟩ c d hB.h (hB.lt _ rfl) (by omega)
  rw [hd] at hcl
  have HCl := Lib.hid hcl
  have HD := Lib.hid hd
  have d0 := hb1.cell 2
  have z1 := hb1.lt
  have z2 := hb2.lt
  simp only [List.getElem?_toArray, List.getElem?_cons_zero, List.getElem?_cons_succ] at d0
  clear h hf1 hb1 hb2 hB hcl hd
  go_enter Tryz.func24, Tryz.ntmps24
  go_wp2_with fail
  refine HCl.out.mono ?_
  rintro e w1 ⟨g1, cp1, rfl, ho1, hf1⟩
  have hb1 := HB1.out.fr hf1 (fun h => h)
  have HBa := Lib.hid hb1
  have HBb := Lib.hid (HB2.out.fr hf1 (fun h => h))
  have e0 := hb1.cell 0
  have e1 := hb1.cell 1
  have e3 := hb1.cell 2
  have q0 := hb1.frozen 2
  have y1 := hb1.lt
  have y2 := HBb.out.lt
  have hg1 := ho1.lt g1 rfl
  have HCp : Hid (CopyIn w1 g1 d) := by
    rcases ho1.2 with ⟨e, _⟩ | ⟨g, cap, cur, e, _, hh, hc1, hc2, hc3, hc4⟩
    · simp at e
    · simp only [Value.slice.injEq, Option.some.injEq, Addr.mk.injEq, and_true, true_and] at e
      obtain ⟨rfl, rfl⟩ := e
      exact ⟨cur, hh, by rw [HD.out, hc3]; omega, by rw [HD.out]; simpa using hc4⟩
  have HFa := Lib.hid (HF1.out.trans hf1)
  have hcap : 480 ≤ cp1 := by
    rcases ho1.2 with ⟨e, _⟩ | ⟨g, cap, cur, e, _, hh, hc1, _⟩
    · simp at e
    · simp only [Value.slice.injEq, Option.some.injEq, Addr.mk.injEq, and_true, true_and] at e
      obtain ⟨rfl, rfl⟩ := e
      exact hc1
  have b0 := HBb.out.cell 0
  have b1 := HBb.out.cell 1
  have b2 := HBb.out.cell 2
  have r0 := HBb.out.frozen 0
  have r1 := HBb.out.frozen 1
  have r2 := HBb.out.frozen 2
  simp only [List.getElem?_toArray, List.getElem?_cons_zero, List.getElem?_cons_succ] at e0 e1 e3 b0 b1 b2
  clear hb1 hf1 ho1 HCl hwa d0
  have hbc : Blk (w1.setCell ⟨gr, 2, none⟩ (.slice (some ⟨g1, 0, none⟩) 480 cp1)) gr 40 #[.int .i64 no, .int .u64 lsn, .slice (some ⟨g1, 0, none⟩) 480 cp1] := HBa.out.set_ 2 _
  have HBc := Lib.hid hbc
  have e2 := hbc.cell 2
  have q2 := hbc.frozen 2
  simp only [List.getElem?_toArray, List.getElem?_cons_zero, List.getElem?_cons_succ] at e2
  clear hbc
  go_wp2
  have hfE : Fr (fun x => x = gr ∨ x = gr + 1) w1 (((((w1.setCell ⟨gr, 2, none⟩ (.slice (some ⟨g1, 0, none⟩) 480 cp1)).setCell ⟨gr, 2, none⟩ (.slice (some ⟨g1, 0, none⟩) 480 480)).setCell ⟨gr + 1, 0, none⟩ (.int .i64 no)).setCell ⟨gr + 1, 1, none⟩ (.int .u64 lsn)).setCell ⟨gr + 1, 2, none⟩ (.slice (some ⟨g1, 0, none⟩) 480 480)) :=
    (((((Fr.refl (fun x => x = gr ∨ x = gr + 1) w1).setCell (p := ⟨gr, 2, none⟩) (.inr (.inl rfl)) _).setCell (p := ⟨gr, 2, none⟩) (.inr (.inl rfl)) _).setCell (p := ⟨gr + 1, 0, none⟩) (.inr (.inr rfl)) _).setCell (p := ⟨gr + 1, 1, none⟩) (.inr (.inr rfl)) _).setCell (p := ⟨gr + 1, 2, none⟩) (.inr (.inr rfl)) _
  have hbE : Blk (((((w1.setCell ⟨gr, 2, none⟩ (.slice (some ⟨g1, 0, none⟩) 480 cp1)).setCell ⟨gr, 2, none⟩ (.slice (some ⟨g1, 0, none⟩) 480 480)).setCell ⟨gr + 1, 0, none⟩ (.int .i64 no)).setCell ⟨gr + 1, 1, none⟩ (.int .u64 lsn)).setCell ⟨gr + 1, 2, none⟩ (.slice (some ⟨g1, 0, none⟩) 480 480)) (gr + 1) 40 #[.int .i64 no, .int .u64 lsn, .slice (some ⟨g1, 0, none⟩) 480 480] :=
    ((((HBb.out.far (p := ⟨gr, 2, none⟩) (by show gr + 1 ≠ gr; omega) _).far (p := ⟨gr, 2, none⟩) (by show gr + 1 ≠ gr; omega) _).set_ 0 _).set_ 1 _).set_ 2 _
  refine bodyPost_ret (results_cell_row1 rfl _ _ _ _ _ _ rfl hbE Tryz.underlying40 rfl page_size) rfl ⟨g1, rfl, HCp.out.fr hfE (fun h => by omega), by have := HFa.out.size; have := HGr.out; omega, HFa.out.step hfE (fun i hi h => by have := HGr.out; omega)⟩
end Go.Proofs.YtccmmnacejdeoaaGreatDoor

/-
  Single operations on a pool's map and frames, as a region that draws its order meets them.
-/
namespace Go.Proofs.YtccmmnacejdeoaaGreatDoor
set_option linter.unusedSimpArgs false
set_option linter.unusedVariables false
open Go.RowKit Go.Maps

theorem rangeAt_of {w : World} {b o : Nat} {t : TypeId} {cs : Array Value} (h : Blk w b t cs) (l : List Value) (hl : ∀ (j : Nat) v, l[j]? = some v → cs[o + j]? = some v) : w.rangeAt b o l := fun j v hv => by
  rw [h.cell]; exact hl j v hv
theorem op_load_mid {P : Program} {o : Oper} {a : Act} {w : World} (ty : TypeId) (x : Operand) (ho : o.op = .load ty x) (b k : Nat) (hx : a.eval x = .pointer (some ⟨b, k, none⟩)) (cs : List Value) (d : TypeDesc) (hc : w.rangeAt b k cs)
    (hu : P.underlying ty = some d) (hd : d.isRow = true) (hi : (P.info? ty).map (·.size) = some cs.length) : (execOp a.eval o).run P w = .ok (.value (.agg cs.toArray)) w := by
  unfold execOp
  simp only [ho, hx, run_loadAt_mid w b k ty cs d hc hu hd hi, Sem.run_bind, Sem.run_pure, Result.andThen_ok]
section
variable {P : Program} {o : Oper} {a : Act} {w : World}
end
section
variable {P : Program} {w : World} {k B n : Nat} {f : Int → Option Nat}
theorem FrMap.run_get (h : FrMap w P k B n f) {t e : TypeId} (K : Keyed P k) (ht : P.underlying t = some (.map k e)) (hz : (zeroValue e).run P w = .ok (.pointer none) w) (y : Int) (hkey : keyOf P k (.int .i64 y) = some (.int .i64 y)) :
    (Instr.lookup t (.map (some B)) (.int .i64 y) false).run P w = .ok (ptrOf (f y)) w := by
  obtain ⟨D, hD, hsz, hf⟩ := h
  obtain ⟨v, ps, hrun, hat⟩ := hD.lookup K ht hz (zd := litOf none) (zp := []) rfl hkey
  rw [(hf y).1] at hat
  obtain rfl := frR_of hat
  exact hrun
theorem FrMap.run_ok (h : FrMap w P k B n f) {t e : TypeId} (K : Keyed P k) (ht : P.underlying t = some (.map k e)) (hz : (zeroValue e).run P w = .ok (.pointer none) w) (y : Int) (hkey : keyOf P k (.int .i64 y) = some (.int .i64 y)) :
    (Instr.lookup t (.map (some B)) (.int .i64 y) true).run P w = .ok (.tuple #[ptrOf (f y), .bool (f y).isSome]) w := by
  obtain ⟨D, hD, hsz, hf⟩ := h
  obtain ⟨v, ps, hrun, hat⟩ := hD.look_ok K ht hz (zd := litOf none) (zp := []) rfl hkey
  rw [(hf y).1] at hat
  obtain rfl := frR_of hat
  rw [(hf y).2] at hrun
  exact hrun
theorem FrMap.run_put (h : FrMap w P k B n f) {t e : TypeId} (K : Keyed P k) (ht : P.underlying t = some (.map k e)) (hn : n < maxLen) (y : Int) (hkey : keyOf P k (.int .i64 y) = some (.int .i64 y)) (hkl : WideAt.IsKeyLit (.int .i64 y)) (b : Nat) (hfy : f y = none) :
    ∃ w', (Instr.mapUpdate t (.map (some B)) (.int .i64 y) (.pointer (some ⟨b, 0, none⟩))).run P w = .ok () w' ∧ FrMap w' P k B (n + 1) (upd f y (some b)) ∧ w.grownBy w' (some B) := by
  obtain ⟨D, hD, hsz, hf⟩ := h
  obtain ⟨w', hrun, h1, h2⟩ := hD.update K ht hn (key := .int .i64 y) (val := .pointer (some ⟨b, 0, none⟩)) (d := litOf (some b)) (ps := []) hkey rfl
  exact ⟨w', hrun, FrMap.putM K hD hsz hf y hkl b hfy h1, h2⟩
end
end Go.Proofs.YtccmmnacejdeoaaGreatDoor

/-
  The pool in memory; what asks it little: room (not full).
-/
namespace Go.Proofs.YtccmmnacejdeoaaGreatDoor
set_option linter.unusedSimpArgs false
set_option linter.unusedVariables false
open Go.RowKit Go.Maps

/-- The pool's own cells: the file, the log, how many frames, the map, the round, the hand. -/
def PoolBlk (w : World) (p f l : Nat) (frames : Int) (B : Nat) (A : Option Addr) (n c : Nat) (hand : Int) : Prop :=
  Blk w p 69 #[.pointer (some ⟨f, 0, none⟩), .pointer (some ⟨l, 0, none⟩), .int .i64 frames, .map (some B), .slice A n c, .int .i64 hand]
set_option maxHeartbeats 1600000 in
theorem room_yes {w : World} {p f l B n c : Nat} {frames hand : Int} {A : Option Addr} (h : PoolBlk w p f l frames B A n c hand) (hlt : (n : Int) < frames) :
    Calls Tryz.prog 25 #[.pointer (some ⟨p, 0, none⟩)] w fun e w' => e = .returned (.int .i64 0) ∧ Fr Nob w w' := by
  have qL := len_round
  have d2 := h.cell 2
  have d4 := h.cell 4
  simp only [List.getElem?_toArray, List.getElem?_cons_zero, List.getElem?_cons_succ] at d2 d4
  have hz := h.lt
  clear h
  go_enter Tryz.func25, Tryz.ntmps25
  go_wp2
  have hS : Fr Nob w w.drew := (Fr.refl _ w).drew
  refine Rg.begin (Fr Nob w) [] (by kernel_rfl) ?_
  refine Rg.op 0 (some 3) hS (v := ?v0a) (hy := fun wz hwz => ?h0a) (h := ?_)
  case h0a => (go_simp; try with_reducible rfl)
  refine Rg.op 1 (some 4) hS (v := ?v1a) (hy := fun wz hwz => ?h1a) (h := ?_)
  case h1a => (go_simp; try with_reducible rfl)
  refine Rg.op 2 (some 5) hS (v := ?v2a) (hy := fun wz hwz => ?h2a) (h := ?_)
  case h2a => (have hpp := Nat.lt_of_lt_of_le hz hwz.size; go_simp; try with_reducible rfl)
  refine Rg.op 3 (some 6) hS (v := (.slice A n c)) (hy := fun wz hwz => ?h3a) (h := ?_)
  case h3a => (have cx := (hwz.cell (p := ⟨p, 4, none⟩) hz (fun h => h)).trans d4; have hpp := Nat.lt_of_lt_of_le hz hwz.size; go_simp; try with_reducible rfl)
  refine Rg.op 4 (some 7) hS (v := (.int .i64 n)) (hy := fun wz hwz => ?h4a) (h := ?_)
  case h4a => (have hq := qL; go_simp; try with_reducible rfl)
  refine Rg.op 5 (some 8) hS (v := ?v5a) (hy := fun wz hwz => ?h5a) (h := ?_)
  case h5a => (go_simp; try with_reducible rfl)
  refine Rg.op 6 (some 9) hS (v := ?v6a) (hy := fun wz hwz => ?h6a) (h := ?_)
  case h6a => (go_simp; try with_reducible rfl)
  refine Rg.op 7 (some 10) hS (v := ?v7a) (hy := fun wz hwz => ?h7a) (h := ?_)
  case h7a => (have hpp := Nat.lt_of_lt_of_le hz hwz.size; go_simp; try with_reducible rfl)
  refine Rg.op 8 (some 11) hS (v := (.int .i64 frames)) (hy := fun wz hwz => ?h8a) (h := ?_)
  case h8a => (have cx := (hwz.cell (p := ⟨p, 2, none⟩) hz (fun h => h)).trans d2; have hpp := Nat.lt_of_lt_of_le hz hwz.size; go_simp; try with_reducible rfl)
  refine Rg.op 9 (some 12) hS (v := (.bool true)) (hy := fun wz hwz => ?h9a) (h := ?_)
  case h9a => (have hq := hlt; go_simp; try with_reducible rfl)
  refine Rg.done _ (h := ?_)
  go_wp2
  go_ret
  exact ⟨rfl, hS⟩
end Go.Proofs.YtccmmnacejdeoaaGreatDoor
