/-
  The states of LogRounds.
-/
import Derived.Test.YtieiopeblleheaaWalHeld
import Derived.Test.YtieiopeblleheaaWalTold
namespace Go.Proofs.Ytieiopeblleheaa
set_option linter.unusedSimpArgs false
set_option linter.unusedVariables false
open Go.RowKit

theorem and_i64_le' (a : Int) (n : Nat) (hn : n < 4611686018427387904) : ∃ m : Nat, bits .and .i64 a n = m ∧ m ≤ n := by
  refine ⟨(BitVec.ofInt 64 a &&& BitVec.ofInt 64 n).toNat, ?_, ?_⟩
  · show IntKind.i64.wrap ((BitVec.ofInt 64 a &&& BitVec.ofInt 64 n).toNat : Nat) = _
    have h : (BitVec.ofInt 64 a &&& BitVec.ofInt 64 n).toNat ≤ n := by
      rw [BitVec.toNat_and]
      refine Nat.le_trans Nat.and_le_right ?_
      rw [BitVec.toNat_ofInt]; omega
    rw [IntKind.wrap_i64]; omega
  · rw [BitVec.toNat_and]
    refine Nat.le_trans Nat.and_le_right ?_
    rw [BitVec.toNat_ofInt]; omega

/-- The records from a number on, up to a. -/
def recsR (long fs a : Nat) : List (List UInt8) := (List.range (a + 1 - fs)).map fun j => recB (fs + j) long
theorem recsR_length (long fs a : Nat) : (recsR long fs a).length = a + 1 - fs := by simp [recsR]
theorem recsR_snoc (long fs a : Nat) (h : fs ≤ a + 1) : recsR long fs (a + 1) = recsR long fs a ++ [recB (a + 1) long] := by
  unfold recsR
  rw [show a + 1 + 1 - fs = (a + 1 - fs) + 1 from by omega, List.range_succ, List.map_append]
  simp only [List.map_cons, List.map_nil]
  rw [show fs + (a + 1 - fs) = a + 1 from by omega]
theorem recsR_get (long fs a i : Nat) (h : i < a + 1 - fs) : (recsR long fs a)[i]? = some (recB (fs + i) long) := by
  unfold recsR
  rw [List.getElem?_map, List.getElem?_range h]; rfl
theorem recsR_drop (long fs a k : Nat) (h : k ≤ a + 1 - fs) : (recsR long fs a).drop k = recsR long (fs + k) a := by
  apply List.ext_getElem?
  intro i
  rw [List.getElem?_drop]
  rcases Nat.lt_or_ge i (a + 1 - (fs + k)) with hi | hi
  · rw [recsR_get _ _ _ _ (by omega), recsR_get _ _ _ _ hi, show fs + (k + i) = fs + k + i from by omega]
  · rw [List.getElem?_eq_none (by rw [recsR_length]; omega), List.getElem?_eq_none (by rw [recsR_length]; omega)]
theorem recsR_small (long fs a : Nat) (h : long ≤ 255) : ∀ r ∈ recsR long fs a, r.length ≤ 255 := by
  intro r hr
  obtain ⟨i, _, rfl⟩ := List.mem_map.1 hr
  rw [recB_length]; exact h
theorem sizes_le (B : Nat) (rs : List (List UInt8)) (h : ∀ r ∈ rs, r.length ≤ B) : sizes rs ≤ (16 + B) * rs.length := by
  induction rs with
  | nil => simp [sizes]
  | cons r rs ih =>
    have h1 := h r (List.mem_cons_self ..)
    have h2 := ih (fun x hx => h x (List.mem_cons_of_mem _ hx))
    simp only [sizes, List.map_cons, List.sum_cons, List.length_cons, Nat.mul_add] at h2 ⊢
    omega
theorem recsR_sizes (long fs a : Nat) (h : long ≤ 255) : sizes (recsR long fs a) ≤ 271 * (a + 1 - fs) := by
  have := sizes_le 255 _ (recsR_small long fs a h)
  rw [recsR_length] at this
  exact this

/-- The log and its disk: the records from fs up to a; dn: all of them are on the disk. -/
structure RAt (long fs a c : Nat) (dn : Bool) (L : LS) (S : DS) : Prop where
  held : ∃ a0 f, Held S L a0 f ∧ (dn = true → f = L.l.length)
  start : L.start = 0
  n : L.n = 40
  first : L.first = fs
  rs : L.rs = recsR long fs a
  turn : L.turn ≤ c
  life : L.life ≤ c + 1
  fin : L.fin ≤ 271 * a
  fs1 : 1 ≤ fs
  fsa : fs ≤ a + 1
  lg : long ≤ 255
section
variable {long fs a c : Nat} {dn : Bool} {L : LS} {S : DS}
theorem RAt.len (h : RAt long fs a c dn L S) : L.l.length = a + 1 - fs := by rw [← LS.rs_length, h.rs, recsR_length]
theorem RAt.next (h : RAt long fs a c dn L S) : L.next = a + 1 := by
  obtain ⟨_, _, hh, _⟩ := h.held
  have h1 := hh.nx
  have h2 := h.len
  have h3 := h.fsa
  have h4 := h.first
  omega
theorem RAt.room (h : RAt long fs a c dn L S) : L.room = 1536 - (sizes (recsR long fs a) : Int) := by
  obtain ⟨_, _, hh, _⟩ := h.held
  rw [hh.room, h.n, h.rs]; rfl
theorem RAt.small (h : RAt long fs a c dn L S) : ∀ x ∈ L.l, x.1.length ≤ 255 := by
  intro x hx
  have : x.1 ∈ L.rs := List.mem_map.2 ⟨x, hx, rfl⟩
  rw [h.rs] at this
  exact recsR_small _ _ _ h.lg _ this
end

def RSt (w0 : World) (p d long fs a c : Nat) (dn : Bool) (wr : World) : Prop := ∃ L S, WSt w0 p d L S wr ∧ RAt long fs a c dn L S
section
variable {w0 wr : World} {p d long fs a c : Nat} {dn : Bool}
theorem RSt.new {wz : World} (h : RSt w0 p d long fs a c dn wr) (hf : Fr Nob wr wz) : RSt w0 p d long fs a c dn wz := by
  obtain ⟨L, S, h1, h2⟩ := h
  exact ⟨L, S, h1.new hf, h2⟩
theorem RSt.news (h : RSt w0 p d long fs a c dn wr) : New w0 wr := by
  obtain ⟨L, S, ⟨_, _, _, _, _, h⟩, _⟩ := h
  exact h
theorem RSt.more (h : RSt w0 p d long fs a c dn wr) : RSt w0 p d long fs a (c + 1) dn wr := by
  obtain ⟨L, S, h1, h2⟩ := h
  exact ⟨L, S, h1, { h2 with turn := Nat.le_succ_of_le h2.turn, life := Nat.le_succ_of_le h2.life }⟩
theorem RSt.fsle (h : RSt w0 p d long fs a c dn wr) : 1 ≤ fs ∧ fs ≤ a + 1 := by
  obtain ⟨L, S, _, h2⟩ := h
  exact ⟨h2.fs1, h2.fsa⟩

theorem RSt.appended (h : RSt w0 p d long fs a c dn wr) (ha : a < 1000) (hn : a + 1 ≤ fs + 4) (g cp : Nat) (hg : g < wr.heap.size) (hb : BytesIn wr (some ⟨g, 0, none⟩) (recB (a + 1) long)) :
    Calls Try.prog 38 #[.pointer (some ⟨p, 0, none⟩), .slice (some ⟨g, 0, none⟩) long cp] wr fun e w' => e = .returned (.tuple #[.int .u64 ((a + 1 : Nat) : Int), .int .i64 0]) ∧ RSt w0 p d long fs (a + 1) c false w' := by
  obtain ⟨L, S, ⟨R, RD, hW, h1, h2, h3⟩, hA⟩ := h
  have hz := recsR_sizes long fs a hA.lg
  have hlg := hA.lg
  have e1 := hA.next
  have e2 := hA.room
  have e3 := hA.fin
  have e4 := hA.len
  have e5 := hA.fsa
  have hap := Append_good ⟨g, 0, none⟩ cp _ hW.l hb hg (by rw [recB_length]; omega) (by rw [recB_length, e2]; omega) (by omega) (by omega) (by omega) (by omega)
  rw [recB_length, e1] at hap
  refine hap.mono ?_
  rintro e w' ⟨rfl, hl, hf⟩
  have hsz := hf.size
  have hsz3 := h3.size
  refine ⟨rfl, L.add (recB (a + 1) long), S, ⟨Ext R wr w', RD, ⟨hl, hW.d.fr hf (fun b hb hr => hW.apart b hr hb), fun b hb hd => ?_, hW.fits⟩, fun b hb => ?_, h2, h3.step hf (fun b hb => h1 b hb)⟩, ?_⟩
  · rcases hb with hb | hb
    · exact hW.apart b hb hd
    · have := hW.d.lt hd; omega
  · rcases hb with hb | hb
    · exact h1 b hb
    · omega
  · obtain ⟨a0, f, hh, _⟩ := hA.held
    exact {
      held := ⟨a0, f, hh.add _, fun h => by cases h⟩
      start := hA.start
      n := hA.n
      first := hA.first
      rs := by rw [LS.add_rs, hA.rs, recsR_snoc _ _ _ hA.fsa]
      turn := hA.turn
      life := hA.life
      fin := by
        show L.fin + (16 + (recB _ _).length) ≤ _
        rw [recB_length]; omega
      fs1 := hA.fs1
      fsa := by omega
      lg := hA.lg }

theorem flush_st {L : LS} {S : DS} (h0 : WSt w0 p d L S wr) (hA : RAt long fs a c dn L S) (ha : a < 1000) (hc : c < 1000) (hn : a ≤ fs + 4) (hfa : fs ≤ a) :
    ∃ L1 S1, RAt long fs a c true L1 S1 ∧ Calls Try.prog 40 #[.pointer (some ⟨p, 0, none⟩)] wr fun e w' => e = .returned (.int .i64 0) ∧ WSt w0 p d L1 S1 w' := by
  obtain ⟨R, RD, hW, h1, h2, h3⟩ := h0
  obtain ⟨a0, f, hh, hdn⟩ := hA.held
  have hz := recsR_sizes long fs a hA.lg
  have e1 := hA.next
  have e3 := hA.fin
  have e4 := hA.len
  have e6 := hA.first
  have e7 := hA.life
  have hfn := hh.laid.fin
  have hkp := hh.kept
  have hrs := hA.rs
  have hlen : L.rs.length = a + 1 - fs := by rw [hrs, recsR_length]
  have hszL : sizes L.rs ≤ 271 * (a + 1 - fs) := by rw [hrs]; exact hz
  by_cases hf : f = L.l.length
  · have hk : L.kept = L.fin := by rw [hkp, hf, List.take_of_length_le (by rw [LS.rs_length]; exact Nat.le_refl _), hfn]
    refine ⟨L, S, { hA with held := ⟨a0, f, hh, fun _ => hf⟩ }, (Flush_none hW hh.calm.dead hk).mono ?_⟩
    rintro e w' ⟨rfl, hf'⟩
    exact ⟨rfl, WSt.new ⟨R, RD, hW, h1, h2, h3⟩ hf'⟩
  · have hfl := hh.fle
    have hlt : L.kept < L.fin := by
      have hsp := sizes_append (L.rs.take f) (L.rs.drop f)
      rw [List.take_append_drop] at hsp
      have hge := sizes_ge (L.rs.drop f)
      rw [List.length_drop] at hge
      rw [LS.rs_length] at hge
      omega
    have hcalm := hh.calm
    have hno := Flush_some (a0 := a0) hW hh.laid hlt (by omega) (by omega) (fun x hx => by have := hA.small x hx; omega) (by omega) (by rw [hh.waits]; show (0 : Nat) + _ < _; omega) (by omega) (by omega) (by omega) (fun j _ => (LS.wrote_calm L _ _ hcalm j).dead)
    have hheld := hh.flush (by omega) (by rw [hA.n]; omega) (by omega) (by omega)
    refine ⟨L.flushed', _, { hA with held := ⟨a0, L.l.length, hheld, fun _ => rfl⟩ }, hno.mono ?_⟩
    rintro e w' ⟨rfl, hl, ⟨RD', hd', hRD'⟩, hf'⟩
    have hsz := h3.size
    have hfz := hf'.size
    refine ⟨rfl, R, RD', ⟨hl, hd', fun b hb hd => ?_, hheld.fits⟩, h1, fun b hb => ?_, h3.step hf' (fun b hb => ?_)⟩
    · rcases hRD' b hd with h | h
      · exact hW.apart b hb h
      · have := hW.l.lt hb; omega
    · rcases hRD' b hb with h | h
      · exact h2 b h
      · omega
    · rcases hb with h | h
      · exact h1 b h
      · exact h2 b h

theorem RSt.flushed (h : RSt w0 p d long fs a c dn wr) (ha : a < 1000) (hc : c < 1000) (hn : a ≤ fs + 4) (hfa : fs ≤ a) :
    Calls Try.prog 40 #[.pointer (some ⟨p, 0, none⟩)] wr fun e w' => e = .returned (.int .i64 0) ∧ RSt w0 p d long fs a c true w' := by
  obtain ⟨L, S, h0, hA⟩ := h
  obtain ⟨L1, S1, hA1, hC⟩ := flush_st h0 hA ha hc hn hfa
  exact hC.mono (fun e w' ⟨he, h⟩ => ⟨he, L1, S1, h, hA1⟩)

theorem RSt.cut (h : RSt w0 p d long fs a c dn wr) (ha : a < 1000) (hc : c < 1000) (hn : a ≤ fs + 4) (hfa : fs ≤ a) :
    Calls Try.prog 42 #[.pointer (some ⟨p, 0, none⟩), .int .u64 (a : Int)] wr fun e w' => e = .returned (.int .i64 0) ∧ RSt w0 p d long a a (c + 1) true w' := by
  obtain ⟨L, S, h0, hA⟩ := h
  obtain ⟨L1, S1, hA1, hC⟩ := flush_st h0 hA ha hc hn hfa
  have hnx : wr.cell? ⟨p, 4, none⟩ = some (.int .u64 ((a + 1 : Nat) : Int)) := by
    obtain ⟨R, RD, hW, _⟩ := h0
    obtain ⟨lv, rv, hl⟩ := hW.l
    have := hl.blk.cell 4
    simp only [List.getElem?_toArray, List.getElem?_cons_zero, List.getElem?_cons_succ] at this
    rw [hA.next] at this
    exact this
  have e1 := hA1.next
  have e3 := hA1.fin
  have e4 := hA1.len
  have e6 := hA1.first
  have e7 := hA1.life
  have e8 := hA1.turn
  have hrs := hA1.rs
  have hz := recsR_sizes long fs a hA1.lg
  obtain ⟨a0, f, hh, hdn⟩ := hA1.held
  have hdn := hdn rfl
  subst hdn
  by_cases hlo : fs = a
  · refine (Cut_low a hnx (by omega) (by omega) (by omega) hC).mono ?_
    rintro e w' ⟨rfl, hW⟩
    subst hlo
    exact ⟨rfl, L1, S1, hW, { hA1 with turn := Nat.le_succ_of_le hA1.turn, life := Nat.le_succ_of_le hA1.life }⟩
  · obtain ⟨k, hk⟩ : ∃ k, a - fs = k := ⟨_, rfl⟩
    have hka : L1.first + k = a := by omega
    have hkl : k < L1.l.length := by omega
    have hcalm := hh.calm
    have hC2 := Cut_some k hnx (by omega) hC (by omega) hkl (by omega) (fun x hx => by have := hA1.small x hx; omega) (by omega) (by rw [hA1.room]; omega) (by rw [hA1.room]; omega) (by omega) hcalm.dead (hcalm.wr _ _).dead (by rw [hh.waits]; show (0 : Nat) + _ < _; omega)
    have hheld := hh.cut k (by omega) hkl (by omega) (by omega) (by omega)
    rw [hka] at hC2 hheld
    refine hC2.mono ?_
    rintro e w' ⟨rfl, hW⟩
    refine ⟨rfl, L1.cut k, _, hW, ?_⟩
    have hl2 : (L1.cut k).l.length = L1.l.length - k := List.length_drop
    exact {
      held := ⟨_, _, hheld, fun _ => hl2.symm⟩
      start := hA1.start
      n := hA1.n
      first := hka
      rs := by
        show (L1.cut k).rs = _
        rw [show (L1.cut k).rs = L1.rs.drop k from LS.rs_drop L1 k, hrs, recsR_drop _ _ _ _ (by omega), show fs + k = a from by omega]
      turn := by show L1.turn + 1 ≤ _; omega
      life := Nat.le_succ_of_le hA1.life
      fin := hA1.fin
      fs1 := by omega
      fsa := by omega
      lg := hA1.lg }
theorem RSt.first (h : RSt w0 p d long fs a c dn wr) : Calls Try.prog 35 #[.pointer (some ⟨p, 0, none⟩)] wr fun e w' => e = .returned (.int .u64 (fs : Int)) ∧ wr = w' := by
  obtain ⟨L, S, ⟨R, RD, hW, _⟩, hA⟩ := h
  have := First_any hW.l
  rwa [hA.first] at this
theorem RSt.next (h : RSt w0 p d long fs a c dn wr) : Calls Try.prog 36 #[.pointer (some ⟨p, 0, none⟩)] wr fun e w' => e = .returned (.int .u64 ((a + 1 : Nat) : Int)) ∧ wr = w' := by
  obtain ⟨L, S, ⟨R, RD, hW, _⟩, hA⟩ := h
  have := Next_any hW.l
  rwa [hA.next] at this
theorem RSt.told (h : RSt w0 p d long fs a c dn wr) (ha : a < 1000) :
    Calls Try.prog 41 #[.pointer (some ⟨p, 0, none⟩)] wr fun e w' => ∃ A cp, e = .returned (.tuple #[.slice A (a + 1 - fs) cp, .bool true]) ∧ w'.ownsRow wr.heap.size 9 1 (.slice A (a + 1 - fs) cp) (a + 1 - fs) (strCells (recsR long fs a)) ∧ Fr Nob wr w' := by
  obtain ⟨L, S, ⟨R, RD, hW, _⟩, hA⟩ := h
  have e4 := hA.len
  have e6 := hA.first
  have e5 := hA.fsa
  have e1 := hA.next
  have ht := told_any hW.l (fun x hx => by have := hA.small x hx; omega) (by omega) (by omega) (by omega)
  rw [e4, hA.rs] at ht
  refine ht.mono ?_
  rintro e w' ⟨v, rfl, ho, hf⟩
  obtain ⟨A, cp, rfl⟩ : ∃ A cp, v = .slice A (a + 1 - fs) cp := by
    rcases ho.2 with ⟨e, e2⟩ | ⟨g, cap, cur, e, _⟩
    · rw [e2]; exact ⟨_, _, e⟩
    · exact ⟨_, _, e⟩
  exact ⟨A, cp, rfl, ho, hf⟩

/-- The disk alone, all records on it. -/
def RDisk (w0 : World) (d long fs a c : Nat) (wr : World) : Prop := ∃ L S RD, DiskOk RD wr d S ∧ RAt long fs a c true L S ∧ (∀ b, RD b → w0.heap.size ≤ b) ∧ New w0 wr
theorem RSt.disk (h : RSt w0 p d long fs a c true wr) : RDisk w0 d long fs a c wr := by
  obtain ⟨L, S, ⟨R, RD, hW, h1, h2, h3⟩, hA⟩ := h
  exact ⟨L, S, RD, hW.d, hA, h2, h3⟩
theorem RDisk.crashed (h : RDisk w0 d long fs a c wr) :
    Calls Try.prog 15 #[.pointer (some ⟨d, 0, none⟩), .slice none 0 0] wr fun e w' => e = .returned (.tuple #[]) ∧ RDisk w0 d long fs a c w' := by
  obtain ⟨L, S, RD, hd, hA, h2, h3⟩ := h
  obtain ⟨a0, f, hh, hdn⟩ := hA.held
  have := Crash_any none 0 [] hd (IntsOut.nil _ _ _) (by simp) (by rw [hh.waits]; simp)
  rw [hh.calm.crash hh.waits] at this
  refine this.mono ?_
  rintro e w' ⟨rfl, hd, hf⟩
  exact ⟨rfl, L, S, RD, hd, hA, h2, h3.step hf h2⟩
theorem RDisk.opened (h : RDisk w0 d long fs a c wr) (ha : a < 1000) (hc : c < 1000) :
    Calls Try.prog 31 #[.pointer (some ⟨d, 0, none⟩), .int .i64 0, .int .i64 40] wr fun e w' => ∃ p, e = .returned (.tuple #[.pointer (some ⟨p, 0, none⟩), .int .i64 0]) ∧ RSt w0 p d long fs a (c + 1) true w' := by
  obtain ⟨L, S, RD, hd, hA, h2, h3⟩ := h
  obtain ⟨a0, f, hh, hdn⟩ := hA.held
  have hdn := hdn rfl
  subst hdn
  have e1 := hA.next
  have e3 := hA.fin
  have e4 := hA.len
  have e6 := hA.first
  have e7 := hA.life
  have e8 := hA.turn
  have e9 := hA.fsa
  have hfn := hh.laid.fin
  have hzz := h3.size
  obtain ⟨L', ho, hheld, q1, q2, q3, q4, q5, q6, q7, q8, q9, q10⟩ := hh.opened (by omega) (by omega) (by omega) (fun r hr => by rw [hA.rs] at hr; have := recsR_small _ _ _ hA.lg r hr; omega)
  have hop := hh.opHead (by omega) (by omega) (by omega)
  rw [hA.start, hA.n] at ho hop
  have hset : S.settled = S := by
    unfold DS.settled
    rw [if_neg (by rw [hh.waits]; simp)]
  have hft := hh.fits
  rw [hA.start, hA.n] at hft
  have htr : L'.trimmed S = S := by unfold LS.trimmed; rw [q10]
  have hO := Open_good 0 40 hd (by omega) (by omega) hft (by rw [hh.waits]; simp) hh.calm.dead (by rw [hset]; exact hh.calm.dead)
    (by rw [hset, hop]; show a0 < _; omega) (by rw [hset, hop]; show L.first < _; omega) (by rw [hset, ho]; unfold LS.trimCode; rw [q10])
  rw [hset, ho, htr] at hO
  refine hO.mono ?_
  rintro e w' ⟨p, rfl, hp, ⟨R, RD', hW, hR, hRD⟩, hf⟩
  refine ⟨p, rfl, L', S, ⟨R, RD', hW, fun b hb => by have := hR b hb; omega, fun b hb => ?_, h3.step hf.fr h2⟩, ?_⟩
  · rcases hRD b hb with h | h
    · exact h2 b h
    · omega
  · exact {
      held := ⟨a0, _, hheld, fun _ => by rw [← LS.rs_length L', q3, LS.rs_length]⟩
      start := by rw [q1]; exact hA.start
      n := by rw [q2]; exact hA.n
      first := by rw [q4]; exact hA.first
      rs := by rw [q3]; exact hA.rs
      turn := by omega
      life := by omega
      fin := by rw [q6]; exact hA.fin
      fs1 := hA.fs1
      fsa := hA.fsa
      lg := hA.lg }
theorem RSt.begun {RD : Nat → Prop} {w1 w2 : World} (hN : New w0 w1) (hl : long ≤ 255) (ho : Opened RD w1 w2 p d (LS.empty 0 40) (DS.new 64)) (hRD : ∀ b, RD b → w0.heap.size ≤ b) : RSt w0 p d long 1 0 0 false w2 := by
  obtain ⟨⟨R, RD', hW, hR, hRD'⟩, hf⟩ := ho
  have hzz := hN.size
  refine ⟨_, _, ⟨R, RD', hW, fun b hb => by have := hR b hb; omega, fun b hb => ?_, hN.step hf.fr hRD⟩, ?_⟩
  · rcases hRD' b hb with h | h
    · exact hRD b h
    · omega
  · exact {
      held := ⟨0, 0, Held.new 0 40 (by omega) (by omega) (by omega), fun h => by cases h⟩
      start := rfl
      n := rfl
      first := rfl
      rs := rfl
      turn := Nat.le_refl _
      life := Nat.le_refl _
      fin := Nat.zero_le _
      fs1 := Nat.le_refl _
      fsa := Nat.le_refl _
      lg := hl }

/-- How many records there are behind so many rounds. -/
def Spans (each fs a : Nat) : Prop := (fs = 1 ∧ a < each) ∨ (fs % each = 0 ∧ 1 ≤ fs ∧ fs ≤ a ∧ a < fs + each)
theorem Spans.step {each fs a : Nat} (h : Spans each fs a) (h1 : 1 ≤ each) (h4 : each ≤ 4) : fs ≤ a + 1 ∧ a + 1 ≤ fs + 4 ∧ ((a + 1) % each = 0 → Spans each (a + 1) (a + 1)) ∧ ((a + 1) % each ≠ 0 → Spans each fs (a + 1)) := by
  unfold Spans at h ⊢
  have : each = 1 ∨ each = 2 ∨ each = 3 ∨ each = 4 := by omega
  rcases this with rfl | rfl | rfl | rfl <;> refine ⟨?_, ?_, ?_, ?_⟩ <;> intros <;> omega
theorem Spans.len {each fs a : Nat} (h : Spans each fs a) (h1 : 1 ≤ a) : fs ≤ a ∧ a + 1 - fs ≤ each + 1 ∧ 0 < a + 1 - fs := by
  unfold Spans at h
  omega
end
end Go.Proofs.Ytieiopeblleheaa
