/-
  PoolUnd, Pool4, PoolRun, Pool2, Pool3, Pool5, in one text.
-/
import Derived.Test.YtfapklpcgcgahaaGreatDoorMg21
import Derived.Test.YtfapklpcgcgahaaGreatDoorMg11
import Derived.Test.YtfapklpcgcgahaaGreatDoorMg08
import Derived.Test.YtfapklpcgcgahaaGreatDoorMg07
import Derived.Deep.MidRow
/-
  What lies under a pool: a file and a log on one disk that nothing threatens; the calls of the pool on them.
-/
namespace Go.Proofs.YtfapklpcgcgahaaGreatDoor
set_option linter.unusedSimpArgs false
set_option linter.unusedVariables false
open Go.RowKit

theorem pgOf_at {now : List (List UInt8)} {at0 pages T : Nat} {lot : List PgV} {cur : Nat → Option PgV} (h : PSt now at0 pages T lot cur) (no : Nat) (hno : no < pages) : pgAt now at0 no = pgOf (cur no) no := by
  rw [pgAt_cur h no hno]
  unfold pgOf
  cases cur no <;> rfl
structure Und (w : World) (f l d pages : Nat) (cur : Nat → Option PgV) (L : LS) (S : DS) (T : Nat) (lot : List PgV) (RL RD : Nat → Prop) (N : Nat) : Prop where
  file : FileAt w f d 0 pages T
  log : LogOk RL w l d L
  disk : DiskOk RD w d S
  still : Still S
  ps : PSt S.now 0 pages T lot cur
  good : LogGood L N
  fit1 : 8 * pages + 80 ≤ L.start
  fit2 : L.start + L.n ≤ S.now.length
  n16 : 16 ≤ L.n
  pg1 : 1 ≤ pages
  pg2 : pages ≤ 4096
  ap3 : ∀ b, RL b → ¬ RD b ∧ b ≠ f
  ap4 : ¬ RD f
section
variable {w w' : World} {f l d pages : Nat} {cur : Nat → Option PgV} {L : LS} {S : DS} {T : Nat} {lot : List PgV} {RL RD F : Nat → Prop} {N : Nat}
theorem Und.fr (h : Und w f l d pages cur L S T lot RL RD N) (hf : Fr F w w') (h1 : ∀ b, RL b → ¬ F b) (h2 : ∀ b, RD b → ¬ F b) (h3 : ¬ F f) : Und w' f l d pages cur L S T lot RL RD N :=
  { h with
    file := h.file.fr hf h3
    log := h.log.fr hf h1
    disk := h.disk.fr hf h2 }
theorem Und.new (h : Und w f l d pages cur L S T lot RL RD N) (hf : Fr Nob w w') : Und w' f l d pages cur L S T lot RL RD N := h.fr hf (fun _ _ h => h) (fun _ _ h => h) (fun h => h)
theorem Und.flt (h : Und w f l d pages cur L S T lot RL RD N) : f < w.heap.size := Blk.lt h.file
theorem Und.wal (h : Und w f l d pages cur L S T lot RL RD N) : WalIn w l d L S RL RD := ⟨h.log, h.disk, fun b hb => (h.ap3 b hb).1, h.fit2⟩
/-- The log is flushed. -/
theorem Und.flush (h : Und w f l d pages cur L S T lot RL RD N) :
    Calls Tryz.prog 50 #[.pointer (some ⟨l, 0, none⟩)] w fun e w' => e = .returned (.int .i64 0) ∧ ∃ L' S' RD', Und w' f l d pages cur L' S' T lot RL RD' N ∧ LSame L L' ∧ (∀ b, RD' b → RD b ∨ w.heap.size ≤ b) ∧ Fr (fun b => RL b ∨ RD b) w w' := by
  refine (Flush_still h.wal h.good h.still h.n16).mono ?_
  rintro e w' ⟨rfl, L', S', RD', hw, hs, hg, hst, hlen, hag, hsub, hf⟩
  have hln := h.ps.len
  refine ⟨rfl, L', S', RD', ?_, hs, hsub, hf⟩
  exact { h with
    file := h.file.fr hf (fun e => by
      rcases e with e | e
      · exact (h.ap3 f e).2 rfl
      · exact h.ap4 e)
    log := hw.l
    disk := hw.d
    still := hst
    ps := h.ps.agree (fun j s hj => hw.d.len64 hj) hlen (fun j _ hj => hag j (.inl (by have := h.fit1; omega)))
    good := hg
    fit1 := by rw [hs.start]; exact h.fit1
    fit2 := by rw [hs.start, hs.n, hlen]; exact h.fit2
    n16 := by rw [hs.n]; exact h.n16
    ap3 := fun b hb => ⟨fun hd => hw.apart b hb hd, (h.ap3 b hb).2⟩
    ap4 := fun hd => by
      rcases hsub f hd with e | e
      · exact h.ap4 e
      · have := h.flt; omega }
/-- Pages are written. -/
theorem Und.write (h : Und w f l d pages cur L S T lot RL RD N) (A : Option Addr) (c : Nat) (xs : List (PgV × Value)) (hl : PgsIn (fun b => RD b ∨ b = f) w A xs) (hok : ∀ x ∈ xs, x.1.Ok ∧ x.1.no < pages) (hn0 : 0 < xs.length) (hn : xs.length ≤ 8)
    (hdis : ∀ (i j : Nat) x y, xs[i]? = some x → xs[j]? = some y → x.1.no = y.1.no → i = j) (hT : T + 1 < 4611686018427387904) :
    Calls Tryz.prog 116 #[.pointer (some ⟨f, 0, none⟩), .slice A xs.length c] w fun e w' => e = .returned (.int .i64 0) ∧ ∃ S' RD', Und w' f l d pages (curW cur (xs.map (·.1)) xs.length) L S' (T + 1) (xs.map (·.1)) RL RD' N ∧ (∀ b, RD' b → RD b ∨ w.heap.size ≤ b) ∧ Fr (fun b => RD b ∨ b = f) w w' := by
  have hpg := h.pg2
  refine (write_now A c xs h.file h.ap4 h.disk h.still h.ps hl hok hn0 hn hdis (by omega) (by omega) hT).mono ?_
  rintro e w' ⟨S', rfl, hnow, hd', hst', hps', hfa', hfr⟩
  have hfr2 : Fr (fun b => RD b ∨ b = f) w w' := hfr.mono (fun b _ hb => hb.elim (fun h => .inl h.1) .inr)
  have hln := h.ps.len
  have hlen : S'.now.length = S.now.length := by rw [hnow, wrote_length]
  refine ⟨rfl, S', Ext RD w w', ?_, fun b hb => hb.elim .inl (fun h => .inr h.1), hfr2⟩
  exact { h with
    file := hfa'
    log := h.log.fr hfr2 (fun b hb e => by
      rcases e with e | e
      · exact (h.ap3 b hb).1 e
      · exact (h.ap3 b hb).2 e)
    disk := hd'
    still := hst'
    ps := hps'
    fit2 := by rw [hlen]; exact h.fit2
    ap3 := fun b hb => ⟨fun hd => by
      rcases hd with hd | hd
      · exact (h.ap3 b hb).1 hd
      · have := h.log.lt hb; omega, (h.ap3 b hb).2⟩
    ap4 := fun hd => by
      rcases hd with hd | hd
      · exact h.ap4 hd
      · have := h.flt; omega }
/-- A page is read. -/
theorem Und.read (h : Und w f l d pages cur L S T lot RL RD N) (no : Nat) (hno : no < pages) :
    Calls Tryz.prog 74 #[.pointer (some ⟨f, 0, none⟩), .int .i64 no] w fun e w' => ∃ g o, e = .returned (.tuple #[.agg #[.int .i64 no, .int .u64 (pgOf (cur no) no).lsn, .slice (some ⟨g, o, none⟩) 480 480], .int .i64 0]) ∧ Bsl w' (some ⟨g, o, none⟩) 480 (pgOf (cur no) no).d ∧ (pgOf (cur no) no).Ok ∧ (pgOf (cur no) no).no = no ∧ w.heap.size ≤ g ∧ Fr Nob w w' := by
  refine (pgRead_any no h.file h.disk h.still.calm.dead h.ps.sound hno).mono ?_
  rintro e w' ⟨g, o, rfl, hb, hg1, hg2, hf⟩
  rw [pgOf_at h.ps no hno] at hb ⊢
  have hok : (pgOf (cur no) no).Ok ∧ (pgOf (cur no) no).no = no := by
    cases hc : cur no with
    | none => exact ⟨⟨by show no < _; have := h.pg2; omega, by show 0 < _; omega, zeros_length 480⟩, rfl⟩
    | some x => exact h.ps.cok no x hno hc
  exact ⟨g, o, rfl, ⟨hb, by rw [hok.1.d]; omega, fun a ha => by injection ha with ha; subst ha; exact hg2⟩, hok.1, hok.2, hg1, hf⟩
/-- A record is put behind the others. -/
theorem Und.append (h : Und w f l d pages cur L S T lot RL RD N) (a : Addr) (c : Nat) (b : List UInt8) (hb : BytesIn w (some a) b) (ha : a.block < w.heap.size) (hlen : b.length ≤ 2000) (hr : b.length + 16 ≤ L.room) (hN : N + 1 ≤ 400000) :
    Calls Tryz.prog 46 #[.pointer (some ⟨l, 0, none⟩), .slice (some a) b.length c] w fun e w' => e = .returned (.tuple #[.int .u64 L.next, .int .i64 0]) ∧ ∃ RL', Und w' f l d pages cur (L.add b) S T lot RL' RD (N + 1) ∧ (∀ x, RL' x → RL x ∨ w.heap.size ≤ x) ∧ Fr RL w w' := by
  have h1 := h.good.fin
  have h2 := h.good.next
  have h3 := h.good.nx
  have h4 := h.good.room
  refine (Append_good a c b h.log hb ha hlen hr (by omega) (by omega) (by omega) (by omega)).mono ?_
  rintro e w' ⟨rfl, hl, hf⟩
  refine ⟨rfl, Ext RL w w', ?_, fun x hx => hx.elim .inl (fun h => .inr h.1), hf⟩
  exact { h with
    file := h.file.fr hf (fun e => (h.ap3 f e).2 rfl)
    log := hl
    disk := h.disk.fr hf (fun x hx e => (h.ap3 x e).1 hx)
    good := h.good.add b hlen hN
    ap3 := fun x hx => by
      rcases hx with hx | hx
      · exact h.ap3 x hx
      · exact ⟨fun hd => by have := h.disk.lt hd; omega, fun e => by have := h.flt; omega⟩ }
end
end Go.Proofs.YtfapklpcgcgahaaGreatDoor

/-
  copied: a page as new memory.
-/
namespace Go.Proofs.YtfapklpcgcgahaaGreatDoor
set_option linter.unusedSimpArgs false
set_option linter.unusedVariables false
open Go.RowKit

theorem results_cell_row1 {P : Program} {fn : Func} {p : Tmp} {ty : TypeId} (h : fn.results = #[.cell p ty]) (tmps : Array Value) (w : World) (g : Nat) (t : TypeId) (cs : Array Value) (d : TypeDesc)
    (hp : tmps.getD p undef = .pointer (some ⟨g, 0, none⟩)) (hg : Blk w g t cs)
    (hu : P.underlying ty = some d) (hd : (match d with | .struct _ | .array _ _ => true | _ => false) = true) (hi : (P.info? ty).map (·.size) = some cs.size) :
    (results fn tmps).run P w = .ok (.agg cs) w := by
  have hp' : tmps[p]?.getD undef = .pointer (some ⟨g, 0, none⟩) := by simpa using hp
  simp [results, h, hp', asAddr, run_loadVar_row w g t ty cs (0, 0) d hg hu hd hi, Sem.run_bind, Result.andThen]
/-- A page's bytes in new memory, in a block that nothing else has. -/
def CopyIn (w : World) (g : Nat) (d : List UInt8) : Prop := ∃ cs, Blk w g 5 cs ∧ d.length ≤ cs.size ∧ cs.toList.take d.length = bts d
theorem CopyIn.bytes {w : World} {g : Nat} {d : List UInt8} (h : CopyIn w g d) : BytesIn w (some ⟨g, 0, none⟩) d := by
  obtain ⟨cs, hb, _, e⟩ := h
  intro _
  refine ⟨g, 0, rfl, fun j x hx => ?_⟩
  rw [Nat.zero_add, hb.cell j]
  have hj := (List.getElem?_eq_some_iff.1 hx).1
  have : (cs.toList.take d.length)[j]? = (bts d)[j]? := by rw [e]
  rw [List.getElem?_take, if_pos hj, Array.getElem?_toList, bts_get, hx] at this
  exact this
theorem CopyIn.lt {w : World} {g : Nat} {d : List UInt8} (h : CopyIn w g d) : g < w.heap.size := by
  obtain ⟨cs, hb, _⟩ := h
  exact hb.lt
theorem CopyIn.fr {F : Nat → Prop} {w w' : World} {g : Nat} {d : List UInt8} (h : CopyIn w g d) (hf : Fr F w w') (hg : ¬ F g) : CopyIn w' g d := by
  obtain ⟨cs, hb, r⟩ := h
  exact ⟨cs, hb.fr hf hg, r⟩
theorem CopyIn.bsl {w : World} {g : Nat} {d : List UInt8} (h : CopyIn w g d) (c : Nat) (hc : d.length ≤ c) : Bsl w (some ⟨g, 0, none⟩) c d :=
  ⟨h.bytes, hc, fun a ha => by injection ha with ha; subst ha; exact h.lt⟩

set_option maxHeartbeats 1600000 in
theorem copied_any {w : World} (no lsn : Int) (kb ko c : Nat) (d : List UInt8) (h : Bsl w (some ⟨kb, ko, none⟩) c d) (hd : d.length = 480) :
    Calls Tryz.prog 73 #[.agg #[.int .i64 no, .int .u64 lsn, .slice (some ⟨kb, ko, none⟩) 480 c]] w fun e w' => ∃ g, e = .returned (.agg #[.int .i64 no, .int .u64 lsn, .slice (some ⟨g, 0, none⟩) 480 480]) ∧ CopyIn w' g d ∧ w.heap.size ≤ g ∧ Fr Nob w w' := by
  have qB := len_by
  obtain ⟨gr, hgr⟩ : ∃ g, w.heap.size = g := ⟨_, rfl⟩
  have HGr := Lib.hid hgr
  have hf1 : Fr Nob w ((w.alloc (.cells #[.int .i64 no, .int .u64 lsn, .slice (some ⟨kb, ko, none⟩) 480 c] 84)).alloc (.cells #[.int .i64 0, .int .u64 0, .slice none 0 0] 84)) := ((Fr.refl _ w).alloc _).alloc _
  have hb1 : Blk ((w.alloc (.cells #[.int .i64 no, .int .u64 lsn, .slice (some ⟨kb, ko, none⟩) 480 c] 84)).alloc (.cells #[.int .i64 0, .int .u64 0, .slice none 0 0] 84)) gr 84 #[.int .i64 no, .int .u64 lsn, .slice (some ⟨kb, ko, none⟩) 480 c] := by rw [← hgr]; exact (Blk.new _ _ _).alloc _
  have hb2 : Blk ((w.alloc (.cells #[.int .i64 no, .int .u64 lsn, .slice (some ⟨kb, ko, none⟩) 480 c] 84)).alloc (.cells #[.int .i64 0, .int .u64 0, .slice none 0 0] 84)) (gr + 1) 84 #[.int .i64 0, .int .u64 0, .slice none 0 0] := by
    have := Blk.new (w.alloc (.cells #[.int .i64 no, .int .u64 lsn, .slice (some ⟨kb, ko, none⟩) 480 c] 84)) 84 #[.int .i64 0, .int .u64 0, .slice none 0 0]
    simp at this
    rwa [hgr] at this
  have hB := h.new hf1
  obtain ⟨wa, hwa⟩ : ∃ W, (w.alloc (.cells #[.int .i64 no, .int .u64 lsn, .slice (some ⟨kb, ko, none⟩) 480 c] 84)).alloc (.cells #[.int .i64 0, .int .u64 0, .slice none 0 0] 84) = W := ⟨_, rfl⟩
  rw [hwa] at hf1 hb1 hb2 hB
  have HF1 := Lib.hid hf1
  have HB1 := Lib.hid hb1
  have HB2 := Lib.hid hb2
  have hcl := bytesClone_cut (w := wa) ⟨kb, ko, none⟩ c d hB.h (hB.lt _ rfl) (by omega)
  rw [hd] at hcl
  have HCl := Lib.hid hcl
  have HD := Lib.hid hd
  have d0 := hb1.cell 2
  have z1 := hb1.lt
  have z2 := hb2.lt
  simp only [List.getElem?_toArray, List.getElem?_cons_zero, List.getElem?_cons_succ] at d0
  clear h hf1 hb1 hb2 hB hcl hd
  go_enter Tryz.func73, Tryz.ntmps73
  go_wp2_with fail
  refine HCl.out.mono ?_
  rintro e w1 ⟨g1, cp1, rfl, ho1, hf1⟩
  have hb1 := HB1.out.fr hf1 (fun h => h)
  have HBa := Lib.hid hb1
  have HBb := Lib.hid (HB2.out.fr hf1 (fun h => h))
  have e0 := hb1.cell 0
  have e1 := hb1.cell 1
  have e3 := hb1.cell 2
  have q0 := hb1.frozen 2
  have y1 := hb1.lt
  have y2 := HBb.out.lt
  have hg1 := ho1.lt g1 rfl
  have HCp : Hid (CopyIn w1 g1 d) := by
    rcases ho1.2 with ⟨e, _⟩ | ⟨g, cap, cur, e, _, hh, hc1, hc2, hc3, hc4⟩
    · simp at e
    · simp only [Value.slice.injEq, Option.some.injEq, Addr.mk.injEq, and_true, true_and] at e
      obtain ⟨rfl, rfl⟩ := e
      exact ⟨cur, hh, by rw [HD.out, hc3]; omega, by rw [HD.out]; simpa using hc4⟩
  have HFa := Lib.hid (HF1.out.trans hf1)
  have hcap : 480 ≤ cp1 := by
    rcases ho1.2 with ⟨e, _⟩ | ⟨g, cap, cur, e, _, hh, hc1, _⟩
    · simp at e
    · simp only [Value.slice.injEq, Option.some.injEq, Addr.mk.injEq, and_true, true_and] at e
      obtain ⟨rfl, rfl⟩ := e
      exact hc1
  have b0 := HBb.out.cell 0
  have b1 := HBb.out.cell 1
  have b2 := HBb.out.cell 2
  have r0 := HBb.out.frozen 0
  have r1 := HBb.out.frozen 1
  have r2 := HBb.out.frozen 2
  simp only [List.getElem?_toArray, List.getElem?_cons_zero, List.getElem?_cons_succ] at e0 e1 e3 b0 b1 b2
  clear hb1 hf1 ho1 HCl hwa d0
  have hbc : Blk (w1.setCell ⟨gr, 2, none⟩ (.slice (some ⟨g1, 0, none⟩) 480 cp1)) gr 84 #[.int .i64 no, .int .u64 lsn, .slice (some ⟨g1, 0, none⟩) 480 cp1] := HBa.out.set_ 2 _
  have HBc := Lib.hid hbc
  have e2 := hbc.cell 2
  have q2 := hbc.frozen 2
  simp only [List.getElem?_toArray, List.getElem?_cons_zero, List.getElem?_cons_succ] at e2
  clear hbc
  go_wp2
  have hfE : Fr (fun x => x = gr ∨ x = gr + 1) w1 (((((w1.setCell ⟨gr, 2, none⟩ (.slice (some ⟨g1, 0, none⟩) 480 cp1)).setCell ⟨gr, 2, none⟩ (.slice (some ⟨g1, 0, none⟩) 480 480)).setCell ⟨gr + 1, 0, none⟩ (.int .i64 no)).setCell ⟨gr + 1, 1, none⟩ (.int .u64 lsn)).setCell ⟨gr + 1, 2, none⟩ (.slice (some ⟨g1, 0, none⟩) 480 480)) :=
    (((((Fr.refl (fun x => x = gr ∨ x = gr + 1) w1).setCell (p := ⟨gr, 2, none⟩) (.inr (.inl rfl)) _).setCell (p := ⟨gr, 2, none⟩) (.inr (.inl rfl)) _).setCell (p := ⟨gr + 1, 0, none⟩) (.inr (.inr rfl)) _).setCell (p := ⟨gr + 1, 1, none⟩) (.inr (.inr rfl)) _).setCell (p := ⟨gr + 1, 2, none⟩) (.inr (.inr rfl)) _
  have hbE : Blk (((((w1.setCell ⟨gr, 2, none⟩ (.slice (some ⟨g1, 0, none⟩) 480 cp1)).setCell ⟨gr, 2, none⟩ (.slice (some ⟨g1, 0, none⟩) 480 480)).setCell ⟨gr + 1, 0, none⟩ (.int .i64 no)).setCell ⟨gr + 1, 1, none⟩ (.int .u64 lsn)).setCell ⟨gr + 1, 2, none⟩ (.slice (some ⟨g1, 0, none⟩) 480 480)) (gr + 1) 84 #[.int .i64 no, .int .u64 lsn, .slice (some ⟨g1, 0, none⟩) 480 480] :=
    ((((HBb.out.far (p := ⟨gr, 2, none⟩) (by show gr + 1 ≠ gr; omega) _).far (p := ⟨gr, 2, none⟩) (by show gr + 1 ≠ gr; omega) _).set_ 0 _).set_ 1 _).set_ 2 _
  refine bodyPost_ret (results_cell_row1 rfl _ _ _ _ _ _ rfl hbE Tryz.underlying84 rfl page_size) rfl ⟨g1, rfl, HCp.out.fr hfE (fun h => by omega), by have := HFa.out.size; have := HGr.out; omega, HFa.out.step hfE (fun i hi h => by have := HGr.out; omega)⟩
end Go.Proofs.YtfapklpcgcgahaaGreatDoor

/-
  Single operations on a pool's map and frames, as a region that draws its order meets them.
-/
namespace Go.Proofs.YtfapklpcgcgahaaGreatDoor
set_option linter.unusedSimpArgs false
set_option linter.unusedVariables false
open Go.RowKit Go.Maps

theorem rangeAt_of {w : World} {b o : Nat} {t : TypeId} {cs : Array Value} (h : Blk w b t cs) (l : List Value) (hl : ∀ (j : Nat) v, l[j]? = some v → cs[o + j]? = some v) : w.rangeAt b o l := fun j v hv => by
  rw [h.cell]; exact hl j v hv
theorem op_load_mid {P : Program} {o : Oper} {a : Act} {w : World} (ty : TypeId) (x : Operand) (ho : o.op = .load ty x) (b k : Nat) (hx : a.eval x = .pointer (some ⟨b, k, none⟩)) (cs : List Value) (d : TypeDesc) (hc : w.rangeAt b k cs)
    (hu : P.underlying ty = some d) (hd : d.isRow = true) (hi : (P.info? ty).map (·.size) = some cs.length) : (execOp a.eval o).run P w = .ok (.value (.agg cs.toArray)) w := by
  unfold execOp
  simp only [ho, hx, run_loadAt_mid w b k ty cs d hc hu hd hi, Sem.run_bind, Sem.run_pure, Result.andThen_ok]
section
variable {P : Program} {o : Oper} {a : Act} {w : World}
end
section
variable {P : Program} {w : World} {k B n : Nat} {f : Int → Option Nat}
theorem FrMap.run_get (h : FrMap w P k B n f) {t e : TypeId} (K : Keyed P k) (ht : P.underlying t = some (.map k e)) (hz : (zeroValue e).run P w = .ok (.pointer none) w) (y : Int) (hkey : keyOf P k (.int .i64 y) = some (.int .i64 y)) :
    (Instr.lookup t (.map (some B)) (.int .i64 y) false).run P w = .ok (ptrOf (f y)) w := by
  obtain ⟨D, hD, hsz, hf⟩ := h
  obtain ⟨v, ps, hrun, hat⟩ := hD.lookup K ht hz (zd := litOf none) (zp := []) rfl hkey
  rw [(hf y).1] at hat
  obtain rfl := frR_of hat
  exact hrun
theorem FrMap.run_ok (h : FrMap w P k B n f) {t e : TypeId} (K : Keyed P k) (ht : P.underlying t = some (.map k e)) (hz : (zeroValue e).run P w = .ok (.pointer none) w) (y : Int) (hkey : keyOf P k (.int .i64 y) = some (.int .i64 y)) :
    (Instr.lookup t (.map (some B)) (.int .i64 y) true).run P w = .ok (.tuple #[ptrOf (f y), .bool (f y).isSome]) w := by
  obtain ⟨D, hD, hsz, hf⟩ := h
  obtain ⟨v, ps, hrun, hat⟩ := hD.look_ok K ht hz (zd := litOf none) (zp := []) rfl hkey
  rw [(hf y).1] at hat
  obtain rfl := frR_of hat
  rw [(hf y).2] at hrun
  exact hrun
theorem FrMap.run_put (h : FrMap w P k B n f) {t e : TypeId} (K : Keyed P k) (ht : P.underlying t = some (.map k e)) (hn : n < maxLen) (y : Int) (hkey : keyOf P k (.int .i64 y) = some (.int .i64 y)) (hkl : WideAt.IsKeyLit (.int .i64 y)) (b : Nat) (hfy : f y = none) :
    ∃ w', (Instr.mapUpdate t (.map (some B)) (.int .i64 y) (.pointer (some ⟨b, 0, none⟩))).run P w = .ok () w' ∧ FrMap w' P k B (n + 1) (upd f y (some b)) ∧ w.grownBy w' (some B) := by
  obtain ⟨D, hD, hsz, hf⟩ := h
  obtain ⟨w', hrun, h1, h2⟩ := hD.update K ht hn (key := .int .i64 y) (val := .pointer (some ⟨b, 0, none⟩)) (d := litOf (some b)) (ps := []) hkey rfl
  exact ⟨w', hrun, FrMap.putM K hD hsz hf y hkl b hfy h1, h2⟩
end
end Go.Proofs.YtfapklpcgcgahaaGreatDoor

/-
  The pool in memory; what asks it little: room (not full).
-/
namespace Go.Proofs.YtfapklpcgcgahaaGreatDoor
set_option linter.unusedSimpArgs false
set_option linter.unusedVariables false
open Go.RowKit Go.Maps

/-- The pool's own cells: the file, the log, how many frames, the map, the round, the hand. -/
def PoolBlk (w : World) (p f l : Nat) (frames : Int) (B : Nat) (A : Option Addr) (n c : Nat) (hand : Int) : Prop :=
  Blk w p 115 #[.pointer (some ⟨f, 0, none⟩), .pointer (some ⟨l, 0, none⟩), .int .i64 frames, .map (some B), .slice A n c, .int .i64 hand]
set_option maxHeartbeats 1600000 in
theorem room_yes {w : World} {p f l B n c : Nat} {frames hand : Int} {A : Option Addr} (h : PoolBlk w p f l frames B A n c hand) (hlt : (n : Int) < frames) :
    Calls Tryz.prog 75 #[.pointer (some ⟨p, 0, none⟩)] w fun e w' => e = .returned (.int .i64 0) ∧ Fr Nob w w' := by
  have qL := len_round
  have d2 := h.cell 2
  have d4 := h.cell 4
  simp only [List.getElem?_toArray, List.getElem?_cons_zero, List.getElem?_cons_succ] at d2 d4
  have hz := h.lt
  clear h
  go_enter Tryz.func75, Tryz.ntmps75
  go_wp2
  have hS : Fr Nob w w.drew := (Fr.refl _ w).drew
  refine Rg.begin (Fr Nob w) [] (by kernel_rfl) ?_
  refine Rg.op 0 (some 3) hS (v := ?v0a) (hy := fun wz hwz => ?h0a) (h := ?_)
  case h0a => (go_simp; try with_reducible rfl)
  refine Rg.op 1 (some 4) hS (v := ?v1a) (hy := fun wz hwz => ?h1a) (h := ?_)
  case h1a => (go_simp; try with_reducible rfl)
  refine Rg.op 2 (some 5) hS (v := ?v2a) (hy := fun wz hwz => ?h2a) (h := ?_)
  case h2a => (have hpp := Nat.lt_of_lt_of_le hz hwz.size; go_simp; try with_reducible rfl)
  refine Rg.op 3 (some 6) hS (v := (.slice A n c)) (hy := fun wz hwz => ?h3a) (h := ?_)
  case h3a => (have cx := (hwz.cell (p := ⟨p, 4, none⟩) hz (fun h => h)).trans d4; have hpp := Nat.lt_of_lt_of_le hz hwz.size; go_simp; try with_reducible rfl)
  refine Rg.op 4 (some 7) hS (v := (.int .i64 n)) (hy := fun wz hwz => ?h4a) (h := ?_)
  case h4a => (have hq := qL; go_simp; try with_reducible rfl)
  refine Rg.op 5 (some 8) hS (v := ?v5a) (hy := fun wz hwz => ?h5a) (h := ?_)
  case h5a => (go_simp; try with_reducible rfl)
  refine Rg.op 6 (some 9) hS (v := ?v6a) (hy := fun wz hwz => ?h6a) (h := ?_)
  case h6a => (go_simp; try with_reducible rfl)
  refine Rg.op 7 (some 10) hS (v := ?v7a) (hy := fun wz hwz => ?h7a) (h := ?_)
  case h7a => (have hpp := Nat.lt_of_lt_of_le hz hwz.size; go_simp; try with_reducible rfl)
  refine Rg.op 8 (some 11) hS (v := (.int .i64 frames)) (hy := fun wz hwz => ?h8a) (h := ?_)
  case h8a => (have cx := (hwz.cell (p := ⟨p, 2, none⟩) hz (fun h => h)).trans d2; have hpp := Nat.lt_of_lt_of_le hz hwz.size; go_simp; try with_reducible rfl)
  refine Rg.op 9 (some 12) hS (v := (.bool true)) (hy := fun wz hwz => ?h9a) (h := ?_)
  case h9a => (have hq := hlt; go_simp; try with_reducible rfl)
  refine Rg.done _ (h := ?_)
  go_wp2
  go_ret
  exact ⟨rfl, hS⟩
end Go.Proofs.YtfapklpcgcgahaaGreatDoor

/-
  drop, of a page whose number stands in the map alone (the map's part).
-/
namespace Go.Proofs.YtfapklpcgcgahaaGreatDoor
set_option linter.unusedSimpArgs false
set_option linter.unusedVariables false
open Go.RowKit Go.Maps

theorem key_law : Keyed Tryz.prog 3 := int_keyed Tryz.underlying3
theorem key_of (y : Int) (h0 : -9223372036854775808 ≤ y) (h1 : y ≤ 9223372036854775807) : keyOf Tryz.prog 3 (.int .i64 y) = some (.int .i64 y) :=
  keyOf_int_mk Tryz.underlying3 (WalkArith.wf_i64 (by omega))
end Go.Proofs.YtfapklpcgcgahaaGreatDoor

/-
  hold: a page is held.
-/
namespace Go.Proofs.YtfapklpcgcgahaaGreatDoor
set_option linter.unusedSimpArgs false
set_option linter.unusedVariables false
open Go.RowKit Go.Maps

theorem info_intq : (Tryz.prog.info? 3).map (fun i => (i.zero, i.size, i.bytes)) = some (some (.int .i64 0), 1, 8) := by kernel_rfl
theorem keylit (y : Int) : WideAt.IsKeyLit (.int .i64 y) := by
  first | trivial | exact True.intro | (unfold WideAt.IsKeyLit; trivial) | simp [WideAt.IsKeyLit]
section
variable {RP RQ : Nat → Prop} {w w9 : World} {p f l B : Nat} {frames hand : Int} {rv rv' : Value} {fs : List (Nat × Frm)}
/-- What hold leaves. -/
theorem PoolAt.held (h : PoolAt RP RQ w p f l frames hand B rv fs) {x : PgV} {dirty : Bool} {gb kb ko c : Nat} (hlen : (fs.length : Int) < frames) (hn : ∀ y ∈ fs, y.2.x.no ≠ x.no)
    (h9 : Fr (fun b => b = p ∨ b = B ∨ some b = rv.ownBlock) w w9)
    (hb : Blk w9 p 115 #[.pointer (some ⟨f, 0, none⟩), .pointer (some ⟨l, 0, none⟩), .int .i64 frames, .map (some B), rv', .int .i64 hand])
    (hm : FrMap w9 Tryz.prog 3 B (fs.length + 1) (upd (heldAt (ksOf fs)) x.no (some gb)))
    (ho : w9.ownsRow 0 3 1 rv' (fs.length + 1) (nosOf fs ++ [.int .i64 x.no]))
    (ha : ∀ g, rv'.ownBlock = some g → rv.ownBlock = some g ∨ w.heap.size ≤ g)
    (hg : Blk w9 gb 130 #[.int .i64 x.no, .int .u64 x.lsn, .slice (some ⟨kb, ko, none⟩) 480 c, .bool dirty, .bool true]) (hgb : w.heap.size ≤ gb) (hk : Bsl w (some ⟨kb, ko, none⟩) c x.d) (hkb : ¬ RP kb) :
    PoolAt (fun b => RP b ∨ (w.heap.size ≤ b ∧ b < w9.heap.size)) (fun b => RQ b ∨ b = kb) w9 p f l frames hand B rv' (fs ++ [(gb, ⟨x, dirty, true⟩)]) := by
  have hkl := hk.lt _ rfl
  have hkl : kb < w.heap.size := hkl
  have hs := h9.size
  have hcl : ∀ b, (b = p ∨ b = B ∨ some b = rv.ownBlock) → RP b := fun b hb => by
    rcases hb with rfl | rfl | hb
    · exact h.rp
    · exact h.rB
    · exact h.rA b hb.symm
  exact {
    blk := hb
    map := by rw [ksOf_append, List.length_append, List.length_singleton, heldAt_append (fun k hk e => by
      unfold ksOf at hk
      obtain ⟨y, hy, rfl⟩ := List.mem_map.1 hk
      exact hn y hy e)]; exact hm
    rnd := by
      rw [List.length_append, List.length_singleton]
      unfold nosOf
      rw [ksOf_append, List.map_append]
      exact ho
    frm := fun y hy => by
      rcases List.mem_append.1 hy with hy | hy
      · refine ((h.frm y hy).fr h9 (fun e => ?_) (fun k hk e => h.ap k (hcl k e) hk)).more (fun _ h => .inl h) (fun _ h => .inl h)
        obtain ⟨cs, hcs⟩ := (h.frm y hy).blk
        rcases e with e | e | e
        · exact Blk.ne_ h.blk hcs (by decide) e.symm
        · exact h.map.blk_ne hcs e
        · exact own_ne_of h.rnd e.symm hcs (by decide) rfl
      · rw [List.mem_singleton] at hy
        subst hy
        exact ⟨.inr ⟨hgb, hg.lt⟩, kb, ko, c, .inr rfl, hg, hk.fr h9 (fun a ha e => by injection ha with ha; subst ha; exact hkb (hcl kb e))⟩
    dis := by
      rw [ksOf_append, List.map_append, List.nodup_append]
      refine ⟨h.dis, by simp, fun a ha b hb e => ?_⟩
      simp only [List.map_cons, List.map_nil, List.mem_singleton] at hb
      obtain ⟨k, hk, rfl⟩ := List.mem_map.1 ha
      unfold ksOf at hk
      obtain ⟨y, hy, rfl⟩ := List.mem_map.1 hk
      exact hn y hy (e.trans hb)
    rp := .inl h.rp
    rB := .inl h.rB
    rA := fun g hg => by
      rcases ha g hg with e | e
      · exact .inl (h.rA g e)
      · refine .inr ⟨e, ?_⟩
        exact own_lt ho hg
    ap := fun b hb hq => by
      rcases hb with hb | hb
      · rcases hq with hq | rfl
        · exact h.ap b hb hq
        · exact hkb hb
      · rcases hq with hq | rfl
        · have := h.ltq b hq; omega
        · omega
    lt := fun b hb => by
      rcases hb with hb | hb
      · have := h.lt b hb; omega
      · exact hb.2
    ltq := fun b hb => by
      rcases hb with hb | rfl
      · have := h.ltq b hb; omega
      · omega
    len := by rw [List.length_append, List.length_singleton]; omega
    f0 := h.f0
    f1 := h.f1
    h0 := h.h0
    h1 := h.h1 }

set_option maxHeartbeats 3200000 in
set_option maxRecDepth 100000 in
theorem hold_any (h : PoolAt RP RQ w p f l frames hand B rv fs) (x : PgV) (dirty : Bool) (kb ko c : Nat) (hk : Bsl w (some ⟨kb, ko, none⟩) c x.d) (hkb : ¬ RP kb) (hlen : (fs.length : Int) < frames) (hn : ∀ y ∈ fs, y.2.x.no ≠ x.no) (hno : x.no < 100000) :
    Calls Tryz.prog 76 #[.pointer (some ⟨p, 0, none⟩), .agg #[.int .i64 x.no, .int .u64 x.lsn, .slice (some ⟨kb, ko, none⟩) 480 c], .bool dirty] w fun e w' => e = .returned (.tuple #[]) ∧ ∃ rv' gb,
      PoolAt (fun b => RP b ∨ (w.heap.size ≤ b ∧ b < w'.heap.size)) (fun b => RQ b ∨ b = kb) w' p f l frames hand B rv' (fs ++ [(gb, ⟨x, dirty, true⟩)]) ∧ Fr (fun b => b = p ∨ b = B ∨ some b = rv.ownBlock) w w' := by
  obtain ⟨i0, hi0, hz0, hz1, hz2⟩ := info_parts info_intq
  have H := Lib.hid h
  have HK := Lib.hid hk
  have HN := Lib.hid hn
  have HKl := Lib.hid (keylit (x.no : Int))
  have hf64 := h.f1
  have HNone : Hid (heldAt (ksOf fs) (x.no : Int) = none) := heldAt_none (fun k hk e => by
    unfold ksOf at hk
    obtain ⟨y, hy, rfl⟩ := List.mem_map.1 hk
    exact hn y hy (by have e : (y.2.x.no : Int) = x.no := e; omega))
  obtain ⟨gx, hgx⟩ : ∃ g, w.heap.size = g := ⟨_, rfl⟩
  have HGx := Lib.hid hgx
  have hfa : Fr Nob w (w.alloc (.cells #[.int .i64 x.no, .int .u64 x.lsn, .slice (some ⟨kb, ko, none⟩) 480 c] 84)) := (Fr.refl _ w).alloc _
  have hbx : Blk (w.alloc (.cells #[.int .i64 x.no, .int .u64 x.lsn, .slice (some ⟨kb, ko, none⟩) 480 c] 84)) gx 84 #[.int .i64 x.no, .int .u64 x.lsn, .slice (some ⟨kb, ko, none⟩) 480 c] := by rw [← hgx]; exact Blk.new _ _ _
  obtain ⟨wa, hwa⟩ : ∃ W, w.alloc (.cells #[.int .i64 x.no, .int .u64 x.lsn, .slice (some ⟨kb, ko, none⟩) 480 c] 84) = W := ⟨_, rfl⟩
  rw [hwa] at hfa hbx
  have HFa := Lib.hid hfa
  have HBx := Lib.hid hbx
  have HMap := Lib.hid (h.map.fr hfa (fun h => h))
  have hba := h.blk.fr hfa (fun h => h)
  have HBa := Lib.hid hba
  have z0 := hba.lt
  have zx := hbx.lt
  have c3 := hba.cell 3
  have x0 := hbx.cell 0
  have hxg : ¬ gx < w.heap.size := by omega
  simp only [List.getElem?_toArray, List.getElem?_cons_zero, List.getElem?_cons_succ] at c3 x0
  clear h hk hn hfa hbx hba
  go_enter Tryz.func76, Tryz.ntmps76
  go_wp2
  clear hwa hgx
  have hS : Fr Nob wa wa.drew := (Fr.refl _ wa).drew
  refine Rg.begin (Fr Nob wa) [10] (by kernel_rfl) ?_
  refine Rg.op 0 (some 6) hS (v := ?v0a) (hy := fun wz hwz => ?h0a) (h := ?_)
  case h0a => (go_simp; try with_reducible rfl)
  refine Rg.op 1 (some 7) hS (v := ?v1a) (hy := fun wz hwz => ?h1a) (h := ?_)
  case h1a => (have hpp := Nat.lt_of_lt_of_le z0 hwz.size; go_simp; try with_reducible rfl)
  refine Rg.op 2 (some 8) hS (v := ?v2a) (hy := fun wz hwz => ?h2a) (h := ?_)
  case h2a => (have hpp := Nat.lt_of_lt_of_le z0 hwz.size; go_simp; try with_reducible rfl)
  refine Rg.op 3 (some 9) hS (v := (.map (some B))) (hy := fun wz hwz => ?h3a) (h := ?_)
  case h3a => (have cx := (hwz.cell (p := ⟨p, 3, none⟩) z0 (fun h => h)).trans c3; have hpp := Nat.lt_of_lt_of_le z0 hwz.size; go_simp; try with_reducible rfl)
  refine Rg.op 4 (some 10) hS (v := ?v4a) (hy := fun wz hwz => ?h4a) (h := ?_)
  case h4a => (go_simp; try with_reducible rfl)
  refine Rg.op 5 (some 11) hS (v := (.int .i64 x.no)) (hy := fun wz hwz => ?h5a) (h := ?_)
  case h5a => (have cx := (hwz.cell (p := ⟨gx, 0, none⟩) zx (fun h => h)).trans x0; have hpp := Nat.lt_of_lt_of_le zx hwz.size; go_simp; try with_reducible rfl)
  refine Rg.op 6 (some 12) hS (v := (.agg #[.int .i64 x.no, .int .u64 x.lsn, .slice (some ⟨kb, ko, none⟩) 480 c])) (hy := fun wz hwz => ?h6a) (h := ?_)
  case h6a => (exact op_load_mid _ _ rfl gx 0 rfl [.int .i64 x.no, .int .u64 x.lsn, .slice (some ⟨kb, ko, none⟩) 480 c] _ (rangeAt_of (HBx.out.fr hwz (fun h => h)) _ (fun j v hv => by rw [Nat.zero_add]; simpa using hv)) Tryz.underlying84 rfl page_size)
  refine Rg.op 7 (some 13) hS (v := ?v7a) (hy := fun wz hwz => ?h7a) (h := ?_)
  case h7a => (go_simp; try with_reducible rfl)
  refine Rg.op 8 (some 14) hS (v := (.agg #[.int .i64 x.no, .int .u64 x.lsn, .slice (some ⟨kb, ko, none⟩) 480 c, .bool dirty, .bool true])) (hy := fun wz hwz => ?h8a) (h := ?_)
  case h8a => (go_simp; try with_reducible rfl)
  have hSb : Fr Nob wa ((wa.alloc (.cells #[.int .i64 x.no, .int .u64 x.lsn, .slice (some ⟨kb, ko, none⟩) 480 c, .bool dirty, .bool true] 130)).drew) := hS.alloc _
  refine Rg.run 9 (some 15) (v := (.pointer (some ⟨wa.heap.size, 0, none⟩))) (w' := ((wa.alloc (.cells #[.int .i64 x.no, .int .u64 x.lsn, .slice (some ⟨kb, ko, none⟩) 480 c, .bool dirty, .bool true] 130)).drew)) (hrun := ?h9a) (hS := (fun _ => hSb)) (h := ?_)
  case h9a => (go_simp; try with_reducible rfl)
  have HMb : Hid (FrMap ((wa.alloc (.cells #[.int .i64 x.no, .int .u64 x.lsn, .slice (some ⟨kb, ko, none⟩) 480 c, .bool dirty, .bool true] 130)).drew) Tryz.prog 3 B fs.length (heldAt (ksOf fs))) := HMap.out.fr hSb (fun h => h)
  obtain ⟨wm, hrm, hmm, hgm⟩ := HMb.out.run_put key_law Tryz.underlying113 (by unfold maxLen; omega) (x.no : Int) (key_of _ (by omega) (by omega)) HKl.out wa.heap.size HNone.out
  have HM1 := Lib.hid hmm
  have HG1 := Lib.hid hgm
  clear hmm hgm
  refine Rg.store 10 (w' := (wm)) (hrun := ?h10a) (hS := (fun h => absurd (by decide) h)) (h := ?_)
  case h10a => (go_simp; try with_reducible rfl)
  refine Rg.done _ (h := ?_)
  have HFm : Hid (Fr (fun k => k = B) wa wm) := (hSb.mono (fun _ _ h => h.elim) : Fr (fun k => k = B) wa _).grown HG1.out (fun k e => .inr (by injection e with e; exact e.symm))
  have HGb : Hid (Blk wm wa.heap.size 130 #[.int .i64 x.no, .int .u64 x.lsn, .slice (some ⟨kb, ko, none⟩) 480 c, .bool dirty, .bool true]) := by
    have hb := Blk.new wa.drew 130 #[.int .i64 x.no, .int .u64 x.lsn, .slice (some ⟨kb, ko, none⟩) 480 c, .bool dirty, .bool true]
    exact hb.grown HG1.out (fun e => by
      have e : wa.heap.size = B := by injection e
      have := HMap.out.lt; omega)
  have hpB : p ≠ B := HMap.out.blk_ne HBa.out
  have hxB : gx ≠ B := HMap.out.blk_ne HBx.out
  have hbm := HBa.out.fr HFm.out (fun e => hpB e)
  have hbxm := HBx.out.fr HFm.out (fun e => hxB e)
  have HBm := Lib.hid hbm
  have HBxm := Lib.hid hbxm
  have HOm : Hid (wm.ownsRow 0 3 1 rv fs.length (nosOf fs)) := own_fr (own_fr H.out.rnd HFa.out (fun _ _ h => h)) HFm.out (fun g hg e => by
    have e : g = B := e
    have := own_ne_map H.out.rnd hg H.out.map
    exact this e)
  have HNp : Hid (¬ some p = rv.ownBlock) := fun e => own_ne_of H.out.rnd e.symm H.out.blk (by decide) rfl
  have HNx : Hid (¬ some gx = rv.ownBlock) := fun e => by have := own_lt H.out.rnd e.symm; exact hxg this
  have zm := hbm.lt
  have zmx := hbxm.lt
  have m4 := hbm.cell 4
  have mx0 := hbxm.cell 0
  simp only [List.getElem?_toArray, List.getElem?_cons_zero, List.getElem?_cons_succ] at m4 mx0
  clear hbm hbxm c3 x0 z0 zx hrm hSb hS hpB hxB
  go_wp2
  have hT : Fr (fun k => some k = rv.ownBlock) wm wm.drew := (Fr.refl _ wm).drew
  refine Rg.begin' (Fr (fun k => some k = rv.ownBlock) wm) [11] (by kernel_rfl) ?_
  refine Rg.op 0 (some 16) hT (v := ?v0b) (hy := fun wz hwz => ?h0b) (h := ?_)
  case h0b => (go_simp; try with_reducible rfl)
  refine Rg.op 1 (some 17) hT (v := ?v1b) (hy := fun wz hwz => ?h1b) (h := ?_)
  case h1b => (go_simp; try with_reducible rfl)
  refine Rg.op 2 (some 18) hT (v := ?v2b) (hy := fun wz hwz => ?h2b) (h := ?_)
  case h2b => (have hpp := Nat.lt_of_lt_of_le zm hwz.size; go_simp; try with_reducible rfl)
  refine Rg.op 3 (some 19) hT (v := ?v3b) (hy := fun wz hwz => ?h3b) (h := ?_)
  case h3b => (have hpp := Nat.lt_of_lt_of_le zm hwz.size; go_simp; try with_reducible rfl)
  refine Rg.op 4 (some 20) hT (v := (rv)) (hy := fun wz hwz => ?h4b) (h := ?_)
  case h4b => (have cx := (hwz.cell (p := ⟨p, 4, none⟩) zm HNp.out).trans m4; have hpp := Nat.lt_of_lt_of_le zm hwz.size; go_simp; try with_reducible rfl)
  refine Rg.op 5 (some 21) hT (v := ?v5b) (hy := fun wz hwz => ?h5b) (h := ?_)
  case h5b => (go_simp; try with_reducible rfl)
  refine Rg.op 6 (some 22) hT (v := (.int .i64 x.no)) (hy := fun wz hwz => ?h6b) (h := ?_)
  case h6b => (have cx := (hwz.cell (p := ⟨gx, 0, none⟩) zmx HNx.out).trans mx0; have hpp := Nat.lt_of_lt_of_le zmx hwz.size; go_simp; try with_reducible rfl)
  have hSa : Fr (fun k => some k = rv.ownBlock) wm (wm.drew.alloc (.cells #[.int .i64 x.no] 3)) := hT.alloc _
  refine Rg.run 7 (some 23) (v := (.slice (some ⟨wm.heap.size, 0, none⟩) 1 1)) (w' := (wm.drew.alloc (.cells #[.int .i64 x.no] 3))) (hrun := ?h7b) (hS := (fun _ => hSa)) (h := ?_)
  case h7b => (go_simp; try with_reducible rfl)
  have hOb : (wm.drew.alloc (.cells #[.int .i64 x.no] 3)).ownsRow 0 3 1 rv fs.length (nosOf fs) := HOm.out.alloc _
  have hNw : ∀ (j : Nat) u, ([.int .i64 x.no] : List Value)[j]? = some u → (wm.drew.alloc (.cells #[.int .i64 x.no] 3)).cell? ((⟨wm.heap.size, 0, none⟩ : Addr).add j) = some u := fun j u hu => by
    have hb := Blk.new wm.drew 3 #[.int .i64 x.no]
    rw [Addr.add_mid, Nat.zero_add]; exact (hb.cell j).trans (by simpa using hu)
  obtain ⟨v7, w7, hr7, hown7, hg7, hn7, hat7⟩ := run_append_own_at (P := Tryz.prog) (wm.drew.alloc (.cells #[.int .i64 x.no] 3)) 0 50 50 3 i0 (.int .i64 0) 1 8 Tryz.underlying50 hi0 hz0 hz1 hz2 rfl (by decide) rv fs.length (nosOf fs) hOb ⟨wm.heap.size, 0, none⟩ 1 1 [.int .i64 x.no] rfl hNw (by intro u hu; simp only [List.mem_cons, List.not_mem_nil, or_false] at hu; subst hu; rfl) (by unfold maxLen; omega) (by omega) (Nat.zero_le _)
  obtain ⟨g7, cap7, rfl, _⟩ := hown7.form (by omega)
  have HR7 := Lib.hid hr7
  have HO7 := Lib.hid hown7
  have HA7 := Lib.hid hat7
  have hS7 : Fr (fun k => some k = rv.ownBlock) wm w7 := hSa.grown hg7 (fun k hk => .inr hk.symm)
  clear hr7 hown7 hat7 hg7 hNw hOb hn7
  refine Rg.run 8 (some 24) (v := (.slice (some ⟨g7, 0, none⟩) (fs.length + 1) cap7)) (w' := (w7)) (hrun := ?h8b) (hS := (fun _ => hS7)) (h := ?_)
  case h8b => exact run_opAppend (.tmp 20) (.tmp 23) 50 50 rv (.slice (some ⟨wm.heap.size, 0, none⟩) 1 1) rfl rfl rfl rfl HR7.out
  refine Rg.op 9 (some 25) hS7 (v := ?v9b) (hy := fun wz hwz => ?h9b) (h := ?_)
  case h9b => (have hpp := Nat.lt_of_lt_of_le zm hwz.size; go_simp; try with_reducible rfl)
  refine Rg.op 10 (some 26) hS7 (v := ?v10b) (hy := fun wz hwz => ?h10b) (h := ?_)
  case h10b => (have hpp := Nat.lt_of_lt_of_le zm hwz.size; go_simp; try with_reducible rfl)
  have hb7 := HBm.out.fr hS7 HNp.out
  have HB7 := Lib.hid hb7
  have hpb := hb7.lt
  have b4 := hb7.cell 4
  have q4 := hb7.frozen 4
  simp only [List.getElem?_toArray, List.getElem?_cons_zero, List.getElem?_cons_succ] at b4
  clear hb7
  refine Rg.store 11 (w' := ?w11b) (hrun := ?h11b) (hS := (fun h => absurd (by decide) h)) (h := ?_)
  case h11b => (go_simp; try with_reducible rfl)
  refine Rg.done _ (h := ?_)
  have hb9 := HB7.out.set_ 4 (.slice (some ⟨g7, 0, none⟩) (fs.length + 1) cap7)
  generalize hW : (w7.setCell ⟨p, 4, none⟩ (.slice (some ⟨g7, 0, none⟩) (fs.length + 1) cap7)) = w9 at *
  have HB9 := Lib.hid hb9
  have hS9 : Fr (fun k => k = p) w7 w9 := by rw [← hW]; exact (Fr.refl (fun k => k = p) w7).setCell (p := ⟨p, 4, none⟩) (.inr rfl) _
  have HS9 := Lib.hid hS9
  have HS7 := Lib.hid hS7
  clear hb9 hS9 hW
  go_wp2
  go_end0
  refine ⟨rfl, (.slice (some ⟨g7, 0, none⟩) (fs.length + 1) cap7), wa.heap.size, ?_⟩
  have hgbn : wa.heap.size ≠ p := fun e => by have := HBa.out.lt; omega
  have hF : Fr (fun b => b = p ∨ b = B ∨ some b = rv.ownBlock) w w9 :=
    (((HFa.out.mono (fun _ _ h => h.elim) : Fr (fun b => b = p ∨ b = B ∨ some b = rv.ownBlock) w wa).step HFm.out (fun _ _ e => .inr (.inl e))).step HS7.out (fun _ _ e => .inr (.inr e))).step HS9.out (fun _ _ e => .inl e)
  have hpB : p ≠ B := H.out.map.blk_ne H.out.blk
  have hBo : ¬ some B = rv.ownBlock := fun e => own_ne_map H.out.rnd e.symm H.out.map rfl
  refine ⟨H.out.held hlen HN.out hF HB9.out ((HM1.out.fr HS7.out hBo).fr HS9.out (fun e => hpB e.symm)) (own_fr HO7.out HS9.out (fun g hg e => ?_)) (fun g hg => ?_) ((HGb.out.fr HS7.out (fun e => ?_)).fr HS9.out hgbn) (by have := HFa.out.size; omega) HK.out hkb, hF⟩
  · have hb7 := HB7.out
    exact own_ne_of HO7.out hg hb7 (by decide) e.symm
  · rcases HA7.out with e | e
    · exact .inl (by rw [← e]; exact hg)
    · rw [hg] at e
      injection e with e
      right
      have h1 := HFa.out.size
      have h2 := HFm.out.size
      simp at e
      omega
  · have := own_lt H.out.rnd e.symm
    have h1 := HFa.out.size
    omega
end
end Go.Proofs.YtfapklpcgcgahaaGreatDoor
