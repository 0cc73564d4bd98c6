/-
  WalAppend, RegIn, WalNew, WalCode, in one text.
-/
import Derived.Test.YtccmmnacejdeoaaGreatDoorMg12
import Derived.OrdersIn
import Derived.OrdersHeld
import Derived.RangeFuncSeq
import Derived.Test.YtccmmnacejdeoaaGreatDoorMg08
/-
  Append: a record put behind the others.
-/
namespace Go.Proofs.YtccmmnacejdeoaaGreatDoor
set_option linter.unusedSimpArgs false
set_option linter.unusedVariables false
open Go.RowKit

section
variable {R : Nat → Prop} {w : World} {p d : Nat} {L : LS}
set_option maxHeartbeats 800000 in
set_option maxRecDepth 100000 in
theorem Append_good (a : Addr) (c : Nat) (b : List UInt8) (h : LogOk R w p d L) (hb : BytesIn w (some a) b) (ha : a.block < w.heap.size) (hlen : b.length ≤ 2000) (hr : b.length + 16 ≤ L.room)
    (hll : L.l.length < 4000000000) (hfin : L.fin < 9223372036854775808) (hnext : L.next < 9223372036854775808) (hr1 : L.room ≤ 4611686018427387904) :
    Calls Tryz.prog 12 #[.pointer (some ⟨p, 0, none⟩), .slice (some a) b.length c] w fun e w' => e = .returned (.tuple #[.int .u64 L.next, .int .i64 0]) ∧ LogOk (Ext R w w') w' p d (L.add b) ∧ Fr R w w' := by
  have HCl := Lib.hid (bytesClone_cut (w := w) a c b hb ha (by omega))
  have H := Lib.hid h
  obtain ⟨lv, rv, h⟩ := h
  have c11 := h.blk.cell 11
  simp only [List.getElem?_toArray, List.getElem?_cons_zero, List.getElem?_cons_succ] at c11
  have hp := h.blk.lt
  clear h hb
  obtain ⟨bl, hbl⟩ : ∃ bl, b.length = bl := ⟨_, rfl⟩
  rw [hbl] at hlen hr HCl ⊢
  have HBl := Lib.hid hbl
  clear hbl
  have t1 : decide ((2000 : Int) < (bl : Int)) = false := by rw [decide_eq_false_iff_not]; omega
  have t2 : decide (L.room < (bl : Int) + 16) = false := by rw [decide_eq_false_iff_not]; omega
  go_enter Tryz.func12, Tryz.ntmps12
  go_wp2_with fail
  refine HCl.out.mono ?_
  rintro e w7 ⟨g7, cap7, rfl, ho7, hf7⟩
  have hz7 := hf7.size
  have hl7 := ho7.lt g7 rfl
  have hL7 : LogOk (Ext R w w7) w7 p d L := (H.out.new hf7).more (fun y hy => .inl hy) (fun y hy => by
    rcases hy with hy | hy
    · have := H.out.lt hy; omega
    · exact hy.2)
  have hrec : RecIn (Ext R w w7) w7 (.slice (some ⟨g7, 0, none⟩) b.length cap7) b := by
    refine ⟨by rw [HBl.out]; exact own_base ho7 (fun _ _ => Nat.zero_le _), fun y hy => ?_⟩
    have : y = g7 := by simpa [Value.ownBlock] using hy.symm
    subst this
    exact .inr ⟨by omega, hl7.2⟩
  have had := add_any (some ⟨g7, 0, none⟩) cap7 b hL7 (by simp) hrec (by omega) (by rw [HBl.out]; omega) (by omega) (by rw [HBl.out]; omega) (by omega) (by omega)
  rw [HBl.out] at had
  have HAd := Lib.hid had
  clear had hrec hL7 ho7 hl7
  go_wp2_with fail
  refine HAd.out.mono ?_
  rintro e w8 ⟨rfl, hl8, hf8⟩
  have hz8 := hf8.size
  have HF8 : Hid (Fr R w w8) := (hf7.mono (G := R) (fun _ _ h => h.elim)).step hf8 (fun i hi h => by rcases h with h | h; exact h; omega)
  have HL8 : Hid (LogOk (Ext R w w8) w8 p d (L.add b)) := hl8.more (fun y hy => by
    rcases hy with (hy | hy) | hy
    · exact .inl hy
    · exact .inr ⟨hy.1, by omega⟩
    · exact .inr ⟨by omega, hy.2⟩) (fun y hy => by
    rcases hy with hy | hy
    · have := H.out.lt hy; omega
    · exact hy.2)
  obtain ⟨lv2, rv2, h2⟩ := HL8.out
  have c4 := h2.blk.cell 4
  simp only [List.getElem?_toArray, List.getElem?_cons_zero, List.getElem?_cons_succ] at c4
  rw [show (L.add b).next = L.next + 1 from rfl] at c4
  have hp8 := h2.blk.lt
  have e5 : ((L.next + 1 : Nat) : Int) - 1 = (L.next : Int) := by omega
  clear h2 hl8 hf8 hf7
  go_wp2
  go_ret2
  exact ⟨rfl, HL8.out, HF8.out⟩
end
end Go.Proofs.YtccmmnacejdeoaaGreatDoor

/-
  Reg's laws inside a fence that lets every function in: for the functions that yield, and for the rounds of a range over a function.
-/
namespace Go.Proofs.YtccmmnacejdeoaaGreatDoor
set_option linter.unusedSimpArgs false
set_option linter.unusedVariables false

section
variable {F : Fence} {n : Nat} {P : Program} {ops : Array Oper} {Q : Exit → Act → World → Prop} {md : Region.Mode} {S : World → Prop} {z : List Nat}

/-- None of the operations defers. -/
def noDefer (ops : Array Oper) : Bool := ops.toList.all fun o => match o.op with | .defer _ => false | _ => true
theorem noDefer_at {i : Nat} {o : Oper} (h : noDefer ops = true) (hi : ops[i]? = some o) (c : Call) : o.op ≠ .defer c := by
  intro e
  have := List.all_eq_true.1 h o (by rw [Array.mem_toList_iff]; exact Array.mem_of_getElem? hi)
  rw [e] at this
  cases this

/-- What an operation comes to, at two frames that differ in a temporary that it does not look at. -/
theorem upon_moved {o : Oper} {a b : Act} {K K' : Act → World → Prop} (hK : ∀ u w, K (a.put o.dst u) w → K' (b.put o.dst u) w) (hQ : ∀ c w, Q (.panic c) a w → Q (.panic c) b w)
    (hd : ∀ d w, K ({ a with defers := d :: a.defers }.put o.dst undef) w → K' ({ b with defers := d :: b.defers }.put o.dst undef) w) (r : Result Next) (h : o.uponIn F n P a K Q r) : o.uponIn F n P b K' Q r := by
  cases r with
  | ok x w =>
    cases x with
    | value v => exact hK v w h
    | skip => exact hK undef w h
    | defer d => exact hd d w h
    | enter f args => exact ⟨h.1, h.2.mono fun e u he => by cases e with | returned v => exact hK v u he | panicked c => exact hQ c u he | outgrown => exact he⟩
    | row row args => exact ⟨h.1, h.2.mono fun v u he => hK v u he⟩
    | round l f tmps assign body => exact ⟨h.1, h.2.mono fun e u he => by cases e with | returned v => exact hK v u he | panicked c => exact hQ c u he | outgrown => exact he⟩
    | _ => exact h
  | halt x w => cases x <;> first | exact hQ _ w h | exact h

/-- Whatever order is picked from here on; S holds behind every operation but z. -/
def RgI (F : Fence) (n : Nat) (P : Program) (md : Region.Mode) (ops : Array Oper) (Q : Exit → Act → World → Prop) (S : World → Prop) (z : List Nat) : Nat → Array Bool → Act → World → Prop
  | 0, listed, a, w => Region.ready md ops listed = [] ∧ Q .normal a w
  | k + 1, listed, a, w => (Region.ready md ops listed = [] → Q .normal a w) ∧
      ∀ j ∈ Region.ready md ops listed, wpOpIn F n P ops Q j (fun b u => (j ∉ z → S u) ∧ RgI F n P md ops Q S z k (listed.setIfInBounds j true) b u) a w

theorem RgI.any : ∀ (k : Nat) (listed : Array Bool) (a : Act) (w : World), RgI F n P md ops Q S z k listed a w → wpAnyIn F n P md ops Q k listed a w
  | 0, _, _, _, h => h
  | k + 1, _, _, _, h => ⟨h.1, fun j hj => wpOpIn_mono (fun b u hb => RgI.any k _ b u hb.2) (h.2 j hj)⟩

/-- An operation meets another one's value already in its place, and leaves it there. -/
theorem wpOpIn_past {i j : Nat} {oi oj : Oper} {v : Value} {a : Act} {w : World} {K : Act → World → Prop} (hall : ∀ f, F.fn f) (hnd : noDefer ops = true) (hi : ops[i]? = some oi) (hj : ops[j]? = some oj) (hap : oi.apart ops oj = true) (hs : Region.noSelect ops = true)
    (hQ : ∀ c a w, Q (.panic c) (a.put oi.dst v) w → Q (.panic c) a w) (hy : YieldsIf P ops S oi v a) (h : wpOpIn F n P ops Q j K (a.put oi.dst v) w) :
    wpOpIn F n P ops Q j (fun b u => YieldsIf P ops S oi v b ∧ K (b.put oi.dst v) u) a w := by
  obtain ⟨h1, h2, h3⟩ := Oper.apart_spec hap
  have stay : ∀ u, YieldsIf P ops S oi v (a.put oj.dst u) := fun u => hy.of_same (execOp_put oi (fun cs b => Region.noSelect_spec hs i oi cs b hi) a oj.dst u h3) (wanted_put oi a oj.dst u h3)
  unfold wpOpIn at h ⊢
  rw [hj] at h ⊢
  dsimp only at h ⊢
  rw [wanted_put oj a oi.dst v h1] at h
  by_cases hw : Region.wanted oj (yielded ops a.tmps) = true
  · rw [if_pos hw] at h ⊢
    refine ⟨fun f _ => hall f, ?_⟩
    have hr := h.2
    rw [Oper.semAt_eq _ _ _ (noDefer_at hnd hj), execOp_put oj (fun cs b => Region.noSelect_spec hs j oj cs b hj) a oi.dst v h1] at hr
    rw [Oper.semAt_eq _ _ _ (noDefer_at hnd hj)]
    refine upon_moved (fun u w' hk => ⟨stay u, ?_⟩) (fun c w' hq => hQ c a w' hq) (fun d w' hk => ⟨?_, ?_⟩) _ hr
    · rw [← Act.put_comm a v u h2]; exact hk
    · have e : YieldsIf P ops S oi v { a with defers := d :: a.defers } := hy.of_same rfl rfl
      exact e.of_same (execOp_put oi (fun cs b => Region.noSelect_spec hs i oi cs b hi) _ oj.dst undef h3) (wanted_put oi _ oj.dst undef h3)
    · rw [← Act.put_comm _ v undef h2, ← Act.put_defers]; exact hk
  · rw [if_neg hw] at h ⊢
    exact ⟨fun f _ => hall f, stay undef, by rw [← Act.put_comm a v undef h2]; exact h.2⟩

theorem RgI.first {i : Nat} {oi : Oper} {v : Value} (hall : ∀ f, F.fn f) (hnd : noDefer ops = true) (hi : ops[i]? = some oi) (hs : Region.noSelect ops = true) (hQ : ∀ c a w, Q (.panic c) (a.put oi.dst v) w → Q (.panic c) a w)
    (hz : (z.all fun j => j == i || !(poss md i ops.toList 0 []).getD j true) = true) :
    ∀ (k : Nat) (listed : Array Bool) (a : Act) (w : World), closed md ops listed = true →
      (∀ j oj, ops[j]? = some oj → j ≠ i → listed.getD j true = false → (∀ e ∈ oj.after, Region.binds md e = true → e.on ≠ i) → oi.apart ops oj = true) →
      i ∈ Region.ready md ops listed → YieldsIf P ops S oi v a → S w →
      RgI F n P md ops Q S z k (listed.setIfInBounds i true) (a.put oi.dst v) w → RgI F n P md ops Q S z (k + 1) listed a w := by
  have now : ∀ (K : Act → World → Prop) (a : Act) (w : World), YieldsIf P ops S oi v a → S w → K (a.put oi.dst v) w → wpOpIn F n P ops Q i K a w := by
    intro K a w hy hS hK
    unfold wpOpIn
    rw [hi]
    dsimp only
    rcases hy with ⟨hw, hv⟩ | ⟨hw, rfl⟩
    · rw [if_pos hw]
      refine ⟨fun f _ => hall f, ?_⟩
      rw [Oper.semAt_eq _ _ _ (noDefer_at hnd hi), hv w hS]
      exact hK
    · rw [if_neg (by rw [hw]; decide)]
      exact ⟨fun f _ => hall f, hK⟩
  intro k
  induction k with
  | zero =>
    intro listed a w _ _ hr hy hS h
    refine ⟨fun e => absurd (e ▸ hr) (by simp), fun j hj => ?_⟩
    by_cases e : j = i
    · subst e; exact now _ a w hy hS ⟨fun _ => hS, h⟩
    · have hm := ready_mono hj e
      rw [h.1] at hm
      cases hm
  | succ k ih =>
    intro listed a w hsz hf hr hy hS h
    refine ⟨fun e => absurd (e ▸ hr) (by simp), fun j hj => ?_⟩
    by_cases e : j = i
    · subst e; exact now _ a w hy hS ⟨fun _ => hS, h⟩
    obtain ⟨hun, oj, hoj, hal⟩ := mem_ready.1 hj
    have hiu := (mem_ready.1 hr).1
    have far : ∀ x : Nat, listed.getD x true = false → ∀ y, listed.getD y false = true → y ≠ x := by
      intro x hx y hy e
      subst e
      rcases Nat.lt_or_ge y listed.size with hl | hl
      · simp [hl] at hx hy; rw [hx] at hy; cases hy
      · simp [Array.getElem?_eq_none hl] at hy
    have hnot : ∀ x ∈ oj.after, Region.binds md x = true → x.on ≠ i := fun x hx hb => far i hiu _ (hal x hx hb)
    have hjz : j ∉ z := by
      intro hm
      have h1 := List.all_eq_true.1 hz j hm
      rw [poss_not hsz hiu hj e] at h1
      simp [e] at h1
    have hap := hf j oj hoj e hun hnot
    refine wpOpIn_mono (fun b u h3 => ?_) (wpOpIn_past hall hnd hi hoj hap hs hQ hy (h.2 j (ready_mono hj e)))
    have hSu := h3.2.1 hjz
    refine ⟨fun _ => hSu, ih _ _ _ (closed_set hsz hj) ?_ (ready_mono hr (Ne.symm e)) h3.1 hSu ?_⟩
    · intro m om hm hmi hmu hno
      refine hf m om hm hmi ?_ hno
      by_cases hjm : j = m
      · subst hjm; exact hun
      · rw [getD_set_ne true hjm] at hmu; exact hmu
    · rw [Array.setIfInBounds_comm _ _ e]
      exact h3.2.2

theorem RgI.begin {K : Act → World → Prop} {id : Nat} {a : Act} {w : World} (S : World → Prop) (z : List Nat) (hm : P.follows .mixedOrders = true)
    (h : RgI F n P .any ops (OnlyNormal K) S z ops.size (Array.replicate ops.size false) a w.drew) : (Code.region id ops true).wpIn F n P (Exit.then K Q) a w :=
  wpIn_mono (wpIn_region_any hm (RgI.any _ _ _ _ h)) (by intro e a w h; cases e <;> first | exact h | exact h.elim)
theorem RgI.begin' {id : Nat} {a : Act} {w : World} (S : World → Prop) (z : List Nat) (hm : P.follows .mixedOrders = true)
    (h : RgI F n P .any ops (OnlyNormal fun a w => Q .normal a w) S z ops.size (Array.replicate ops.size false) a w.drew) : (Code.region id ops true).wpIn F n P Q a w :=
  wpIn_mono (wpIn_region_any hm (RgI.any _ _ _ _ h)) (by intro e a w h; cases e <;> first | exact h | exact h.elim)

theorem RgI.op {K : Act → World → Prop} (i : Nat) (d : Option Tmp) {oi : Oper} {v : Value} {fuel : Nat} {listed : Array Bool} {a a' : Act} {w : World} (hS : S w)
    (hall : ∀ f, F.fn f := by exact fun _ => trivial) (hi : ops[i]? = some oi := by rfl) (hd : oi.dst = d := by rfl)
    (hc : (Region.noSelect ops && noDefer ops && Region.free md ops listed i && (Region.ready md ops listed).contains i && (z.all fun j => j == i || !(poss md i ops.toList 0 []).getD j true) && closed md ops listed && Region.wanted oi (yielded ops a.tmps)) = true := by kernel_rfl)
    (hy : ∀ w, S w → (execOp a.eval oi).run P w = .ok (.value v) w) (ha : a.put d v = a')
    (h : RgI F n P md ops (OnlyNormal K) S z fuel (listed.setIfInBounds i true) a' w) : RgI F n P md ops (OnlyNormal K) S z (fuel + 1) listed a w := by
  simp only [Bool.and_eq_true, Bool.not_eq_true', beq_iff_eq] at hc
  obtain ⟨⟨⟨⟨⟨⟨h1, h0⟩, h2⟩, h3⟩, h4⟩, h5⟩, h6⟩ := hc
  exact RgI.first hall h0 hi h1 (fun _ _ _ h => h) h4 fuel listed a w h5 (Region.free_spec hi h2) (by simpa using h3) (.inl ⟨h6, hy⟩) hS (by rw [hd, ha]; exact h)
theorem RgI.pass {K : Act → World → Prop} (i : Nat) (d : Option Tmp) {oi : Oper} {fuel : Nat} {listed : Array Bool} {a a' : Act} {w : World} (hS : S w)
    (hall : ∀ f, F.fn f := by exact fun _ => trivial) (hi : ops[i]? = some oi := by rfl) (hd : oi.dst = d := by rfl)
    (hc : (Region.noSelect ops && noDefer ops && Region.free md ops listed i && (Region.ready md ops listed).contains i && (z.all fun j => j == i || !(poss md i ops.toList 0 []).getD j true) && closed md ops listed && !Region.wanted oi (yielded ops a.tmps)) = true := by kernel_rfl)
    (ha : a.put d undef = a')
    (h : RgI F n P md ops (OnlyNormal K) S z fuel (listed.setIfInBounds i true) a' w) : RgI F n P md ops (OnlyNormal K) S z (fuel + 1) listed a w := by
  simp only [Bool.and_eq_true, Bool.not_eq_true', beq_iff_eq] at hc
  obtain ⟨⟨⟨⟨⟨⟨h1, h0⟩, h2⟩, h3⟩, h4⟩, h5⟩, h6⟩ := hc
  exact RgI.first hall h0 hi h1 (fun _ _ _ h => h) h4 fuel listed a w h5 (Region.free_spec hi h2) (by simpa using h3) (.inr ⟨h6, rfl⟩) hS (by rw [hd, ha]; exact h)

theorem RgI.step {i : Nat} {o : Oper} {fuel : Nat} {listed : Array Bool} {a : Act} {w : World} (hall : ∀ f, F.fn f) (hnd : noDefer ops = true) (hi : ops[i]? = some o) (hr : Region.ready md ops listed = [i]) (hw : Region.wanted o (yielded ops a.tmps) = true)
    (h : o.uponIn F n P a (fun b u => (i ∉ z → S u) ∧ RgI F n P md ops Q S z fuel (listed.setIfInBounds i true) b u) Q ((execOp a.eval o).run P w)) : RgI F n P md ops Q S z (fuel + 1) listed a w := by
  refine ⟨fun e => (by rw [e] at hr; cases hr), fun j hj => ?_⟩
  rw [hr, List.mem_singleton] at hj
  subst hj
  unfold wpOpIn
  rw [hi]
  dsimp only
  rw [if_pos hw]
  refine ⟨fun f _ => hall f, ?_⟩
  rw [Oper.semAt_eq _ _ _ (noDefer_at hnd hi)]
  exact h
theorem RgI.run (i : Nat) (d : Option Tmp) {o : Oper} {v : Value} {fuel : Nat} {listed : Array Bool} {a a' : Act} {w w' : World}
    (hall : ∀ f, F.fn f := by exact fun _ => trivial) (hnd : noDefer ops = true := by kernel_rfl) (hi : ops[i]? = some o := by rfl) (hd : o.dst = d := by rfl) (hr : Region.ready md ops listed = [i] := by kernel_rfl) (hw : Region.wanted o (yielded ops a.tmps) = true := by rfl)
    (hrun : (execOp a.eval o).run P w = .ok (.value v) w') (ha : a.put d v = a') (hS : i ∉ z → S w')
    (h : RgI F n P md ops Q S z fuel (listed.setIfInBounds i true) a' w') : RgI F n P md ops Q S z (fuel + 1) listed a w := by
  refine RgI.step hall hnd hi hr hw ?_
  rw [hrun]
  refine ⟨hS, ?_⟩
  rw [hd, ha]
  exact h
theorem RgI.seq (i : Nat) (d : Option Tmp) {o : Oper} {v : Value} {fuel : Nat} {listed : Array Bool} {a a' : Act} {w : World} (hS : S w)
    (hall : ∀ f, F.fn f := by exact fun _ => trivial) (hnd : noDefer ops = true := by kernel_rfl) (hi : ops[i]? = some o := by rfl) (hd : o.dst = d := by rfl) (hr : Region.ready md ops listed = [i] := by kernel_rfl) (hw : Region.wanted o (yielded ops a.tmps) = true := by rfl)
    (hrun : (execOp a.eval o).run P w = .ok (.value v) w) (ha : a.put d v = a')
    (h : RgI F n P md ops Q S z fuel (listed.setIfInBounds i true) a' w) : RgI F n P md ops Q S z (fuel + 1) listed a w :=
  RgI.run i d hall hnd hi hd hr hw hrun ha (fun _ => hS) h
/-- An operation behind which S is not asked, where nothing else may come up. -/
theorem RgI.late (i : Nat) (d : Option Tmp) {o : Oper} {v : Value} {fuel : Nat} {listed : Array Bool} {a a' : Act} {w : World} (hz : i ∈ z := by decide)
    (hall : ∀ f, F.fn f := by exact fun _ => trivial) (hnd : noDefer ops = true := by kernel_rfl) (hi : ops[i]? = some o := by rfl) (hd : o.dst = d := by rfl) (hr : Region.ready md ops listed = [i] := by kernel_rfl) (hw : Region.wanted o (yielded ops a.tmps) = true := by rfl)
    (hrun : (execOp a.eval o).run P w = .ok (.value v) w) (ha : a.put d v = a')
    (h : RgI F n P md ops Q S z fuel (listed.setIfInBounds i true) a' w) : RgI F n P md ops Q S z (fuel + 1) listed a w :=
  RgI.run i d hall hnd hi hd hr hw hrun ha (fun h => absurd hz h) h
theorem RgI.store (i : Nat) {o : Oper} {fuel : Nat} {listed : Array Bool} {a : Act} {w w' : World}
    (hall : ∀ f, F.fn f := by exact fun _ => trivial) (hnd : noDefer ops = true := by kernel_rfl) (hi : ops[i]? = some o := by rfl) (hd : o.dst = none := by rfl) (hr : Region.ready md ops listed = [i] := by kernel_rfl) (hw : Region.wanted o (yielded ops a.tmps) = true := by rfl)
    (hrun : (execOp a.eval o).run P w = .ok .skip w') (hS : i ∉ z → S w')
    (h : RgI F n P md ops Q S z fuel (listed.setIfInBounds i true) a w') : RgI F n P md ops Q S z (fuel + 1) listed a w := by
  refine RgI.step hall hnd hi hr hw ?_
  rw [hrun]
  refine ⟨hS, ?_⟩
  rw [hd]
  exact h
theorem RgI.call (i : Nat) (d : Option Tmp) {o : Oper} {fuel : Nat} {listed : Array Bool} {a : Act} {w : World} {f : FuncId} {args : Array Value} {R : Ending → World → Prop}
    (hall : ∀ f, F.fn f := by exact fun _ => trivial) (hnd : noDefer ops = true := by kernel_rfl) (hi : ops[i]? = some o := by rfl) (hd : o.dst = d := by rfl) (hr : Region.ready md ops listed = [i] := by kernel_rfl) (hw : Region.wanted o (yielded ops a.tmps) = true := by rfl)
    (hn : F.depth.isSome = true → 1 ≤ n := by intro h; cases h)
    (hrun : (execOp a.eval o).run P w = .ok (.enter f args) w) (hcall : CallsIn F (n - 1) P f args w R)
    (h : ∀ e w', R e w' → ∃ v a', e = .returned v ∧ a.put d v = a' ∧ (i ∉ z → S w') ∧ RgI F n P md ops Q S z fuel (listed.setIfInBounds i true) a' w') : RgI F n P md ops Q S z (fuel + 1) listed a w := by
  refine RgI.step hall hnd hi hr hw ?_
  rw [hrun]
  refine ⟨hn, hcall.mono ?_⟩
  intro e w' hR
  obtain ⟨v, a', rfl, ha, hS, h2⟩ := h e w' hR
  refine ⟨hS, ?_⟩
  rw [hd, ha]
  exact h2
/-- A call of yield. -/
theorem RgI.yield (i : Nat) (d : Option Tmp) {o : Oper} {fuel : Nat} {listed : Array Bool} {a : Act} {w : World} {l : Nat} {args : Array Value} {R : Ending → World → Prop}
    (hall : ∀ f, F.fn f := by exact fun _ => trivial) (hnd : noDefer ops = true := by kernel_rfl) (hi : ops[i]? = some o := by rfl) (hd : o.dst = d := by rfl) (hr : Region.ready md ops listed = [i] := by kernel_rfl) (hw : Region.wanted o (yielded ops a.tmps) = true := by rfl)
    (hn : F.depth.isSome = true → 1 ≤ n := by intro h; cases h)
    (hrun : (execOp a.eval o).run P w = (Instr.yield l args).run P w) (hcall : YieldAt F (n - 1) P l args w R)
    (h : ∀ e w', R e w' → ∃ v a', e = .returned v ∧ a.put d v = a' ∧ (i ∉ z → S w') ∧ RgI F n P md ops Q S z fuel (listed.setIfInBounds i true) a' w') : RgI F n P md ops Q S z (fuel + 1) listed a w := by
  obtain ⟨fn, tmps, assign, body, hy, hR⟩ := hcall
  refine RgI.step hall hnd hi hr hw ?_
  rw [hrun, hy]
  refine ⟨hn, hR.mono ?_⟩
  intro e w' hR
  obtain ⟨v, a', rfl, ha, hS, h2⟩ := h e w' hR
  refine ⟨hS, ?_⟩
  rw [hd, ha]
  exact h2
theorem RgI.done {K : Act → World → Prop} {listed : Array Bool} {a : Act} {w : World} (fuel : Nat) (hr : Region.ready md ops listed = [] := by kernel_rfl) (h : K a w) : RgI F n P md ops (OnlyNormal K) S z fuel listed a w := by
  cases fuel with
  | zero => exact ⟨hr, h⟩
  | succ k => exact ⟨fun _ => h, by rw [hr]; simp⟩
end
end Go.Proofs.YtccmmnacejdeoaaGreatDoor

/-
  A log on a disk of noughts.
-/
namespace Go.Proofs.YtccmmnacejdeoaaGreatDoor
set_option linter.unusedSimpArgs false
set_option linter.unusedVariables false
open Go.RowKit

theorem getN_zeros (n : Nat) : getN (List.replicate n (0 : UInt8)) = 0 := by
  induction n with
  | zero => rfl
  | succ n ih => rw [List.replicate_succ', getN_snoc, ih]; rfl
theorem nought_part (o n : Nat) : getN ((nought.drop o).take n) = 0 := by
  unfold nought
  rw [List.drop_replicate, List.take_replicate]
  exact getN_zeros _
theorem pGood_nought : pGood nought = false := by
  have : pN nought = 0 := by unfold pN nought; simp [List.getD]
  unfold pGood pOk
  rw [this]; rfl
theorem pGood_nil : pGood [] = false := by
  have : pN [] = 0 := rfl
  unfold pGood pOk
  rw [this]; rfl
/-- Nothing is on the disk. -/
def Bare (S : DS) : Prop := ∀ i, S.now.getD i [] = nought ∨ S.now.getD i [] = []
theorem Bare.new (n : Nat) : Bare (DS.new n) := by
  intro i
  rw [List.getD_eq_getElem?_getD]
  show ((List.replicate n nought)[i]?).getD [] = _ ∨ ((List.replicate n nought)[i]?).getD [] = _
  rw [List.getElem?_replicate]
  split
  · exact .inl rfl
  · exact .inr rfl
theorem Bare.good {S : DS} (h : Bare S) (i : Nat) : pGood (S.now.getD i []) = false := by
  rcases h i with e | e <;> rw [e]
  · exact pGood_nought
  · exact pGood_nil
theorem Bare.lsn {S : DS} (h : Bare S) (i : Nat) : hLsn (S.now.getD i []) = 0 := by
  rcases h i with e | e <;> rw [e]
  · exact nought_part 16 8
  · rfl
theorem Bare.head {S : DS} (h : Bare S) (L : LS) (i : Nat) : L.head (S.now.getD i []) = L := by
  unfold LS.head
  rw [if_neg (by rw [h.lsn]; omega)]
theorem Bare.readHead {S : DS} (h : Bare S) (L : LS) : L.readHead S = L := by
  unfold LS.readHead
  split
  · rfl
  · simp only [LS.heads, h.head]
theorem Bare.str {S : DS} (h : Bare S) (L : LS) (k : Nat) : (L.str S k).out = [] ∧ (L.str S k).ml = L.life := by
  induction k with
  | zero => exact ⟨rfl, rfl⟩
  | succ k ih =>
    simp only [LS.str]
    unfold St.step
    rw [if_neg (by rw [h.good]; rintro ⟨_, h, _⟩; cases h)]
    refine ⟨ih.1, ?_⟩
    show (if _ then _ else _) = _
    rw [if_neg (by rw [h.good]; decide)]
    exact ih.2
/-- A log that has nothing. -/
def LS.empty (at_ n : Nat) : LS := ⟨at_, n, 1, 1, 0, [], 0, 0, 1, 0, 48 * ((n : Int) - 8)⟩
theorem Bare.opHead {S : DS} (h : Bare S) (at_ n : Nat) : LS.opHead at_ n S = { LS.fresh at_ n with next := 1, room := 48 * ((n : Int) - 8) } := by
  unfold LS.opHead
  rw [h.readHead]; rfl
theorem Bare.opened {S : DS} (h : Bare S) (at_ n : Nat) : LS.opened at_ n S = LS.empty at_ n := by
  have hb : ∀ L : LS, L.bytes S = [] := fun L => by unfold LS.bytes; rw [(h.str L _).1]; simp
  have hs : ∀ L : LS, L.streamed S = L := fun L => by unfold LS.streamed; rw [(h.str L _).2]
  unfold LS.opened LS.opTake
  simp only [h.opHead, hb, hs]
  rfl
theorem Bare.cutB {S : DS} (h : Bare S) (L : LS) : L.cutB S = none := by
  unfold LS.cutB
  dsimp only
  rw [if_neg (by rw [h.good]; rintro ⟨h, _⟩; cases h)]
theorem Bare.trimmed {S : DS} (h : Bare S) (L : LS) : L.trimmed S = S ∧ L.trimCode S = 0 := by
  unfold LS.trimmed LS.trimCode
  rw [h.cutB]
  exact ⟨rfl, rfl⟩
theorem DS.new_facts (n : Nat) : (DS.new n).now.length = n ∧ (DS.new n).waits = [] ∧ (DS.new n).dead = false ∧ (DS.new n).settled = DS.new n := by
  refine ⟨?_, rfl, rfl, ?_⟩
  · show (List.replicate n nought).length = n; simp
  · unfold DS.settled
    rw [if_neg (by show ¬ 0 < ([] : List _).length; simp)]

/-- Opening a log on a new disk. -/
theorem Open_new {RD : Nat → Prop} {w : World} {d N : Nat} (at_ n : Nat) (h : DiskOk RD w d (DS.new N)) (h16 : 16 ≤ n) (hmost : n ≤ 32768) (hat : at_ + n ≤ N) :
    Calls Tryz.prog 19 #[.pointer (some ⟨d, 0, none⟩), .int .i64 at_, .int .i64 n] w fun e w' => ∃ p, e = .returned (.tuple #[.pointer (some ⟨p, 0, none⟩), .int .i64 0]) ∧ w.heap.size ≤ p ∧ Opened RD w w' p d (LS.empty at_ n) (DS.new N) := by
  obtain ⟨f1, f2, f3, f4⟩ := DS.new_facts N
  have hb := Bare.new N
  have := Open_good at_ n h h16 hmost (by rw [f1]; exact hat) (by rw [f2]; simp) f3 (by rw [f4]; exact f3) (by rw [f4, hb.opHead]; show (0 : Nat) < _; omega) (by rw [f4, hb.opHead]; show (1 : Nat) < _; omega) (by rw [f4]; exact (hb.trimmed _).2)
  rw [f4, hb.opened, (hb.trimmed _).1] at this
  exact this
end Go.Proofs.YtccmmnacejdeoaaGreatDoor

/-
  What sectors and records tell when they are read again (plain).
-/
namespace Go.Proofs.YtccmmnacejdeoaaGreatDoor
set_option linter.unusedSimpArgs false
set_option linter.unusedVariables false
open Go.RowKit

section
variable (no life : Nat) (b : List UInt8)
theorem sectB_no (hb : b.length ≤ 48) (h : no < 1099511627776) : pNo (sectB no life b) = no := by
  unfold pNo sectB sectPre sectN sectL sectA
  rw [splice_apart _ _ _ _ _ (by rw [putB_length, ← sectA, ← sectL, ← sectN, ← sectPre, sectPre_length _ _ _ hb]; omega) (.inl (by omega)),
    splice_apart _ _ _ _ _ (by rw [← sectA, ← sectL, ← sectN, sectN_length]; omega) (.inl (by omega)), set_apart _ _ _ _ _ (.inr (by omega)),
    splice_apart _ _ _ _ _ (by rw [putB_length, ← sectA, sectA_length]; omega) (.inl (by omega))]
  have := splice_self (zeros 64) (putB 5 no) 0 (by rw [putB_length, zeros_length]; omega)
  rw [putB_length] at this
  rw [this, getN_putB _ _ (by omega)]
  exact Nat.mod_eq_of_lt (by have : 256 ^ 5 = 1099511627776 := by decide
                             omega)
theorem sectB_life (hb : b.length ≤ 48) (h : life < 281474976710656) : pLife (sectB no life b) = life := by
  unfold pLife sectB sectPre sectN sectL
  rw [splice_apart _ _ _ _ _ (by rw [putB_length, ← sectL, ← sectN, ← sectPre, sectPre_length _ _ _ hb]; omega) (.inl (by omega)),
    splice_apart _ _ _ _ _ (by rw [← sectL, ← sectN, sectN_length]; omega) (.inl (by omega)), set_apart _ _ _ _ _ (.inr (by omega))]
  have := splice_self (sectA no) (putB 6 life) 5 (by rw [putB_length, sectA_length]; omega)
  rw [putB_length] at this
  rw [this, getN_putB _ _ (by omega)]
  exact Nat.mod_eq_of_lt (by have : 256 ^ 6 = 281474976710656 := by decide
                             omega)
theorem sectB_n (hb : b.length ≤ 48) : pN (sectB no life b) = b.length := by
  unfold pN sectB sectPre sectN
  rw [List.getD_eq_getElem?_getD, splice_at _ _ _ _ (by rw [putB_length, ← sectN, ← sectPre, sectPre_length _ _ _ hb]; omega) (.inl (by omega)),
    splice_at _ _ _ _ (by rw [← sectN, sectN_length]; omega) (.inl (by omega)), List.getElem?_set_self (by rw [sectL_length]; omega)]
  show (UInt8.ofNat b.length).toNat = _
  rw [UInt8.toNat_ofNat']
  omega
theorem sectB_own (hb : b.length ≤ 48) : pOwn (sectB no life b) = b := by
  unfold pOwn
  rw [sectB_n no life b hb]
  unfold sectB
  rw [splice_apart _ _ _ _ _ (by rw [putB_length, sectPre_length _ _ _ hb]; omega) (.inr (by rw [putB_length]; omega))]
  unfold sectPre
  exact splice_self _ _ _ (by rw [sectN_length]; omega)
/-- A sector that was written whole is a good one. -/
theorem sectB_good (hb : b.length ≤ 48) (h0 : 0 < b.length) (h1 : no < 1099511627776) (h2 : life < 281474976710656) : pGood (sectB no life b) = true := by
  unfold pGood pOk
  rw [sectB_n no life b hb, sectB_no no life b hb h1, sectB_life no life b hb h2, sectB_own no life b hb]
  simp [hb, h0]
end

section
variable (x : Nat) (r : List UInt8)
theorem fraB_n (h : r.length < 4294967296) (rest : List UInt8) : tkN (fraB x r ++ rest) = r.length := by
  unfold tkN
  rw [List.drop_append_of_le_length (by rw [fraB_length]; omega), List.take_append_of_le_length (by rw [List.length_drop, fraB_length]; omega)]
  unfold fraB
  rw [splice_apart _ _ _ _ _ (by rw [putB_length, fraPre_length]; omega) (.inr (by rw [putB_length]; omega))]
  unfold fraPre
  rw [List.drop_append_of_le_length (by rw [fraH_length]; omega), List.take_append_of_le_length (by rw [List.length_drop, fraH_length]; omega)]
  unfold fraH
  rw [splice_apart _ _ _ _ _ (by rw [putB_length, fraN_length]; omega) (.inl (by omega))]
  have := splice_self (zeros 16) (putB 4 r.length) 4 (by rw [putB_length, zeros_length]; omega)
  rw [putB_length] at this
  unfold fraN
  rw [this, getN_putB _ _ (by omega)]
  exact Nat.mod_eq_of_lt (by have : 256 ^ 4 = 4294967296 := by decide
                             omega)
theorem fraB_lsn (h : x < 18446744073709551616) (rest : List UInt8) : getN (((fraB x r ++ rest).drop 8).take 8) = x := by
  rw [List.drop_append_of_le_length (by rw [fraB_length]; omega), List.take_append_of_le_length (by rw [List.length_drop, fraB_length]; omega)]
  unfold fraB
  rw [splice_apart _ _ _ _ _ (by rw [putB_length, fraPre_length]; omega) (.inr (by rw [putB_length]; omega))]
  unfold fraPre
  rw [List.drop_append_of_le_length (by rw [fraH_length]; omega), List.take_append_of_le_length (by rw [List.length_drop, fraH_length]; omega)]
  unfold fraH
  have := splice_self (fraN r.length) (putB 8 x) 8 (by rw [putB_length, fraN_length]; omega)
  rw [putB_length] at this
  rw [this, getN_putB _ _ (by omega)]
  exact Nat.mod_eq_of_lt (by have : 256 ^ 8 = 18446744073709551616 := by decide
                             omega)
theorem fraB_own (rest : List UInt8) : ((fraB x r ++ rest).drop 16).take r.length = r := by
  rw [List.drop_append_of_le_length (by rw [fraB_length]; omega), List.take_append_of_le_length (by rw [List.length_drop, fraB_length]; omega)]
  unfold fraB
  rw [splice_apart _ _ _ _ _ (by rw [putB_length, fraPre_length]; omega) (.inr (by rw [putB_length]; omega))]
  unfold fraPre
  rw [List.drop_append_of_le_length (by rw [fraH_length]; omega), show (16 : Nat) = (fraH x r.length).length from (fraH_length _ _).symm, List.drop_length]
  simp
theorem fraB_rec (h : r.length < 4294967296) (rest : List UInt8) : tkRec (fraB x r ++ rest) = r := by
  unfold tkRec
  rw [fraB_n x r h rest]
  exact fraB_own x r rest
/-- A record that was framed is taken again. -/
theorem fraB_ok (h : r.length ≤ 2000) (hx : x < 18446744073709551616) (rest : List UInt8) : tkOk x (fraB x r ++ rest) := by
  have hn := fraB_n x r (by omega) rest
  refine ⟨by rw [List.length_append, fraB_length]; omega, by rw [hn]; exact h, by rw [hn, List.length_append, fraB_length]; omega, fraB_lsn x r hx rest, ?_⟩
  rw [fraB_rec x r (by omega) rest, hn]
  rw [List.take_append_of_le_length (by rw [fraB_length]; omega), List.take_of_length_le (by rw [fraB_length]; omega)]
theorem fraB_rest (h : r.length < 4294967296) (rest : List UInt8) : (fraB x r ++ rest).drop (16 + tkN (fraB x r ++ rest)) = rest := by
  rw [fraB_n x r h rest, show 16 + r.length = (fraB x r).length from (fraB_length _ _).symm, List.drop_left]
end
end Go.Proofs.YtccmmnacejdeoaaGreatDoor
