/-
  The states of LogLasts.
-/
import Derived.Test.YtieiopeblleheaaWalCalm
import Derived.Test.YtieiopeblleheaaWalAwake
import Derived.Test.YtieiopeblleheaaWalTold
namespace Go.Proofs.Ytieiopeblleheaa
set_option linter.unusedSimpArgs false
set_option linter.unusedVariables false
open Go.RowKit

theorem and_i64_le (a : Int) (n : Nat) (hn : n < 4611686018427387904) : ∃ m : Nat, bits .and .i64 a n = m ∧ m ≤ n := by
  refine ⟨(BitVec.ofInt 64 a &&& BitVec.ofInt 64 n).toNat, ?_, ?_⟩
  · show IntKind.i64.wrap ((BitVec.ofInt 64 a &&& BitVec.ofInt 64 n).toNat : Nat) = _
    have h : (BitVec.ofInt 64 a &&& BitVec.ofInt 64 n).toNat ≤ n := by
      rw [BitVec.toNat_and]
      refine Nat.le_trans Nat.and_le_right ?_
      rw [BitVec.toNat_ofInt]; omega
    rw [IntKind.wrap_i64]; omega
  · rw [BitVec.toNat_and]
    refine Nat.le_trans Nat.and_le_right ?_
    rw [BitVec.toNat_ofInt]; omega
/-- A length, as LogLasts takes it. -/
def maskN (v : Int) : Nat := (bits .and .i64 v 127).toNat
theorem maskN_eq (v : Int) : bits .and .i64 v 127 = (maskN v : Int) := by
  obtain ⟨m, h, _⟩ := and_i64_le v 127 (by omega)
  have h : bits .and .i64 v 127 = (m : Int) := h
  unfold maskN
  rw [h]; rfl
theorem maskN_le (v : Int) : maskN v ≤ 127 := by
  obtain ⟨m, h, hm⟩ := and_i64_le v 127 (by omega)
  have h : bits .and .i64 v 127 = (m : Int) := h
  unfold maskN
  rw [h]; exact hm
/-- The first records. -/
def lastR (zs : List Int) (k : Nat) : List (List UInt8) := (List.range k).map fun i => recB i (maskN (zs.getD i 0))
theorem lastR_length (zs : List Int) (k : Nat) : (lastR zs k).length = k := by simp [lastR]
theorem lastR_succ (zs : List Int) (k : Nat) : lastR zs (k + 1) = lastR zs k ++ [recB k (maskN (zs.getD k 0))] := by simp [lastR, List.range_succ]
theorem lastR_get (zs : List Int) (k i : Nat) (h : i < k) : (lastR zs k)[i]? = some (recB i (maskN (zs.getD i 0))) := by simp [lastR, List.getElem?_range h]
theorem lastR_sizes (zs : List Int) : ∀ k, sizes (lastR zs k) ≤ 143 * k
  | 0 => by simp [lastR, sizes]
  | k + 1 => by
    rw [lastR_succ, sizes_append]
    have h1 := lastR_sizes zs k
    have h2 := maskN_le (zs.getD k 0)
    simp only [sizes, List.map_cons, List.map_nil, List.sum_cons, List.sum_nil, recB_length] at h1 ⊢
    omega
theorem lastR_small (zs : List Int) (k : Nat) : ∀ r ∈ lastR zs k, r.length ≤ 2000 := by
  intro r hr
  obtain ⟨i, _, rfl⟩ := List.mem_map.1 hr
  rw [recB_length]
  have := maskN_le (zs.getD i 0)
  omega

/-- The log and its disk behind so many records, flushed or not. -/
structure LAt (wr : World) (p d : Nat) (zs : List Int) (kk a : Nat) (dn : Bool) (L : LS) (S : DS) (R RD : Nat → Prop) : Prop where
  i : WalIn wr p d L S R RD
  next : L.next = a + 1
  room : L.room = 4416 - (sizes (lastR zs a) : Int)
  fin : L.fin = sizes (lastR zs a)
  len : L.l.length = a
  no : dn = false → L = (LS.empty 0 100).adds (lastR zs a) ∧ S = DS.new 100
  yes : dn = true → S = (DS.new 100).once 0 100 (lastR zs (kk + 1)) ∧ L.flushed = kk + 1
def LSt (w : World) (p d : Nat) (zs : List Int) (kk a : Nat) (dn : Bool) (wr : World) : Prop :=
  ∃ L S R RD, LAt wr p d zs kk a dn L S R RD ∧ (∀ b, R b → w.heap.size ≤ b) ∧ (∀ b, RD b → w.heap.size ≤ b) ∧ New w wr
theorem LSt.new {w : World} {p d : Nat} {zs : List Int} {kk a : Nat} {dn : Bool} {wr wz : World} (h : LSt w p d zs kk a dn wr) (hf : Fr Nob wr wz) : LSt w p d zs kk a dn wz := by
  obtain ⟨L, S, R, RD, hA, h1, h2, h3⟩ := h
  exact ⟨L, S, R, RD, { hA with i := { hA.i with l := hA.i.l.new hf, d := hA.i.d.new hf } }, h1, h2, h3.new hf⟩
theorem LSt.appended {w : World} {p d : Nat} {zs : List Int} {kk a : Nat} {dn : Bool} {wr : World} (h : LSt w p d zs kk a dn wr) (ha : a < 20) (g c : Nat) (hg : g < wr.heap.size) (hb : BytesIn wr (some ⟨g, 0, none⟩) (recB a (maskN (zs.getD a 0)))) :
    Calls Try.prog 38 #[.pointer (some ⟨p, 0, none⟩), .slice (some ⟨g, 0, none⟩) (maskN (zs.getD a 0)) c] wr fun e w' => e = .returned (.tuple #[.int .u64 ((a + 1 : Nat) : Int), .int .i64 0]) ∧ LSt w p d zs kk (a + 1) dn w' := by
  obtain ⟨L, S, R, RD, hA, h1, h2, h3⟩ := h
  have hz := lastR_sizes zs a
  have hm := maskN_le (zs.getD a 0)
  have e1 := hA.next
  have e2 := hA.room
  have e3 := hA.fin
  have e4 := hA.len
  have hap := Append_good ⟨g, 0, none⟩ c _ hA.i.l hb hg (by rw [recB_length]; omega) (by rw [recB_length, e2]; omega) (by omega) (by omega) (by omega) (by omega)
  rw [recB_length, e1] at hap
  refine hap.mono ?_
  rintro e w' ⟨rfl, hl, hf⟩
  have hsz := hf.size
  have es : sizes (lastR zs (a + 1)) = sizes (lastR zs a) + (16 + maskN (zs.getD a 0)) := by
    rw [lastR_succ, sizes_append]; simp [sizes, recB_length]
  refine ⟨rfl, L.add (recB a (maskN (zs.getD a 0))), S, Ext R wr w', RD, ⟨⟨hl, hA.i.d.fr hf (fun b hb hr => hA.i.apart b hr hb), fun b hb hd => ?_, hA.i.fits⟩, ?_, ?_, ?_, ?_, fun hd => ?_, fun hd => hA.yes hd⟩, fun b hb => ?_, h2, h3.step hf (fun b hb => h1 b hb)⟩
  · rcases hb with hb | hb
    · exact hA.i.apart b hb hd
    · have := hA.i.d.lt hd; omega
  · show L.next + 1 = _; rw [e1]
  · show L.room - (16 + (recB a _).length) = _; rw [recB_length, e2, es]; omega
  · show L.fin + (16 + (recB a _).length) = _; rw [recB_length, e3, es]
  · show (L.l ++ [_]).length = _; rw [List.length_append, e4]; rfl
  · obtain ⟨h, hS⟩ := hA.no hd
    refine ⟨?_, hS⟩
    rw [lastR_succ, LS.adds_snoc, h]
  · rcases hb with hb | hb
    · exact h1 b hb
    · have := h3.size; omega
theorem LSt.flushed {w : World} {p d : Nat} {zs : List Int} {kk : Nat} {wr : World} (h : LSt w p d zs kk (kk + 1) false wr) (ha : kk < 20) :
    Calls Try.prog 40 #[.pointer (some ⟨p, 0, none⟩)] wr fun e w' => e = .returned (.int .i64 0) ∧ LSt w p d zs kk (kk + 1) true w' := by
  obtain ⟨L, S, R, RD, hA, h1, h2, h3⟩ := h
  have hz := lastR_sizes zs (kk + 1)
  have e1 := hA.next
  have e2 := hA.room
  have e3 := hA.fin
  have e4 := hA.len
  obtain ⟨hL, hS⟩ := hA.no rfl
  obtain ⟨k1, k2, k3, k4, k5, k6, k7, k8, k9, k10, k11⟩ := LS.adds_kept (lastR zs (kk + 1)) (LS.empty 0 100)
  rw [← hL] at k1 k2 k3 k4 k5 k6 k7 k8 k9 k10 k11
  have hld : L.Laid 0 := by
    rw [hL]
    exact LS.Laid.adds _ ⟨fun i hi => absurd hi (by show ¬ i < 0; omega), rfl⟩
  have hkept : L.kept = 0 := k6
  have hfirst : L.first = 1 := k3
  have hrs : L.rs = lastR zs (kk + 1) := by rw [k8]; rfl
  have hge := sizes_ge (lastR zs (kk + 1))
  rw [lastR_length] at hge
  have hf0 : L.from0 0 = 0 := by unfold LS.from0; rw [hkept]; rfl
  have hwb : L.wbs 0 = frames 1 (lastR zs (kk + 1)) := by
    unfold LS.wbs LS.tail
    rw [hf0, hfirst, hrs]; rfl
  have hwl : (L.wbs 0).length = sizes (lastR zs (kk + 1)) := by rw [hwb, frames_length]
  have hsm : ∀ x ∈ L.l, x.1.length ≤ 2000 := by
    intro x hx
    have : x.1 ∈ L.rs := List.mem_map.2 ⟨x, hx, rfl⟩
    rw [hrs] at this
    exact lastR_small zs _ _ this
  have hcalm : Calm S := by rw [hS]; exact Calm.new 100
  have hfl := Flush_some (a0 := 0) hA.i hld (by omega) (by omega) (by omega) hsm (by omega) (by rw [hS]; show (0 : Nat) + _ < _; omega) (by omega) (by omega) (by omega) (fun j _ => (LS.wrote_calm L _ _ hcalm j).dead)
  rw [hf0, hwb, frames_length] at hfl
  refine hfl.mono ?_
  rintro e w' ⟨rfl, hl, ⟨RD', hd', hRD'⟩, hf⟩
  have hsz := h3.size
  have hfz := hf.size
  have ho : (L.wrote S (0 / 48) (frames 1 (lastR zs (kk + 1))) (secs (sizes (lastR zs (kk + 1))))).flushed = (DS.new 100).once 0 100 (lastR zs (kk + 1)) := by
    unfold DS.once; rw [hL, hS]
  rw [ho] at hd'
  refine ⟨rfl, L.flushed', _, R, RD', ⟨⟨hl, hd', fun b hb hd => ?_, ?_⟩, e1, e2, e3, e4, (fun h => by cases h), fun _ => ⟨rfl, ?_⟩⟩, h1, fun b hb => ?_, h3.step hf (fun b hb => ?_)⟩
  · rcases hRD' b hd with h | h
    · exact hA.i.apart b hb h
    · have := hA.i.l.lt hb; omega
  · have := hA.i.fits
    rw [once_length (Calm.new 100), (DS.new_facts 100).1]
    rw [hS, (DS.new_facts 100).1] at this
    exact this
  · show L.next - 1 = _; omega
  · rcases hRD' b hb with h | h
    · exact h2 b h
    · omega
  · rcases hb with h | h
    · exact h1 b h
    · exact h2 b h
theorem LSt.isFlushed {w : World} {p d : Nat} {zs : List Int} {kk a : Nat} {wr : World} (h : LSt w p d zs kk a true wr) : Calls Try.prog 37 #[.pointer (some ⟨p, 0, none⟩)] wr fun e w' => e = .returned (.int .u64 ((kk + 1 : Nat) : Int)) ∧ wr = w' := by
  obtain ⟨L, S, R, RD, hA, h1, h2, h3⟩ := h
  have := Flushed_any hA.i.l
  rw [(hA.yes rfl).2] at this
  exact this
/-- The disk alone. -/
def DSt (w : World) (d : Nat) (zs : List Int) (kk : Nat) (dn : Bool) (wr : World) : Prop :=
  ∃ RD, DiskOk RD wr d (if dn = true then (DS.new 100).once 0 100 (lastR zs (kk + 1)) else DS.new 100) ∧ (∀ b, RD b → w.heap.size ≤ b) ∧ New w wr
theorem DSt.new {w : World} {d : Nat} {zs : List Int} {kk : Nat} {dn : Bool} {wr wz : World} (h : DSt w d zs kk dn wr) (hf : Fr Nob wr wz) : DSt w d zs kk dn wz := by
  obtain ⟨RD, h1, h2, h3⟩ := h
  exact ⟨RD, h1.new hf, h2, h3.new hf⟩
theorem LSt.disk {w : World} {p d : Nat} {zs : List Int} {kk a : Nat} {dn : Bool} {wr : World} (h : LSt w p d zs kk a dn wr) : DSt w d zs kk dn wr := by
  obtain ⟨L, S, R, RD, hA, h1, h2, h3⟩ := h
  refine ⟨RD, ?_, h2, h3⟩
  cases dn
  · have := (hA.no rfl).2
    rw [if_neg (by decide), ← this]; exact hA.i.d
  · have := (hA.yes rfl).1
    rw [if_pos rfl, ← this]; exact hA.i.d
theorem DSt.crashed {w : World} {d : Nat} {zs : List Int} {kk : Nat} {dn : Bool} {wr : World} (h : DSt w d zs kk dn wr) :
    Calls Try.prog 15 #[.pointer (some ⟨d, 0, none⟩), .slice none 0 0] wr fun e w' => e = .returned (.tuple #[]) ∧ DSt w d zs kk dn w' := by
  obtain ⟨RD, h1, h2, h3⟩ := h
  have hc : Calm (if dn = true then (DS.new 100).once 0 100 (lastR zs (kk + 1)) else DS.new 100) ∧ (if dn = true then (DS.new 100).once 0 100 (lastR zs (kk + 1)) else DS.new 100).waits = [] := by
    cases dn
    · rw [if_neg (by decide)]; exact ⟨Calm.new 100, rfl⟩
    · rw [if_pos rfl]; exact ⟨once_calm (Calm.new 100), once_waits (Calm.new 100)⟩
  have := Crash_any none 0 [] h1 (IntsOut.nil _ _ _) (by simp) (by rw [hc.2]; simp)
  rw [hc.1.crash hc.2] at this
  refine this.mono ?_
  rintro e w' ⟨rfl, hd, hf⟩
  exact ⟨rfl, RD, hd, h2, h3.step hf h2⟩
/-- The log that was opened again. -/
def OSt (w : World) (p d : Nat) (zs : List Int) (m : Nat) (wr : World) : Prop :=
  ∃ L R, LogOk R wr p d L ∧ L.first = 1 ∧ L.next = m + 1 ∧ L.rs = lastR zs m ∧ L.room = 4416 - (sizes (lastR zs m) : Int) ∧ L.fin = sizes (lastR zs m) ∧ (∀ b, R b → w.heap.size ≤ b) ∧ New w wr
theorem OSt.new {w : World} {p d : Nat} {zs : List Int} {m : Nat} {wr wz : World} (h : OSt w p d zs m wr) (hf : Fr Nob wr wz) : OSt w p d zs m wz := by
  obtain ⟨L, R, h1, h2, h3, h4, h5, h6, h7, h8⟩ := h
  exact ⟨L, R, h1.new hf, h2, h3, h4, h5, h6, h7, h8.new hf⟩
theorem DSt.opened {w : World} {d : Nat} {zs : List Int} {kk : Nat} {dn : Bool} {wr : World} (h : DSt w d zs kk dn wr) (ha : dn = true → kk < 20) :
    Calls Try.prog 31 #[.pointer (some ⟨d, 0, none⟩), .int .i64 0, .int .i64 100] wr fun e w' => ∃ p, e = .returned (.tuple #[.pointer (some ⟨p, 0, none⟩), .int .i64 0]) ∧ OSt w p d zs (if dn = true then kk + 1 else 0) w' := by
  obtain ⟨RD, h1, h2, h3⟩ := h
  have hzz := h3.size
  cases dn
  · rw [if_neg (by decide)] at h1
    refine (Open_new 0 100 h1 (by omega) (by omega) (by omega)).mono ?_
    rintro e w' ⟨p, rfl, hp, ⟨R, RD', hW, hR, hRD⟩, hf⟩
    exact ⟨p, rfl, _, R, hW.l, rfl, rfl, rfl, rfl, rfl, fun b hb => by have := hR b hb; omega, h3.step hf.fr h2⟩
  · rw [if_pos rfl] at h1
    have hk := ha rfl
    have hz := lastR_sizes zs (kk + 1)
    have hc := Calm.new 100
    have hb := Bare.new 100
    have hl : (DS.new 100).now.length = 100 := (DS.new_facts 100).1
    have hset : ((DS.new 100).once 0 100 (lastR zs (kk + 1))).settled = (DS.new 100).once 0 100 (lastR zs (kk + 1)) := by
      unfold DS.settled
      rw [if_neg (by rw [once_waits hc]; simp)]
    obtain ⟨life, hop⟩ := once_opened (at_ := 0) (n := 100) (rs := lastR zs (kk + 1)) hc hb (by omega) (by omega) (by omega) (by omega) (lastR_small zs _)
    obtain ⟨k1, k2, k3, k4, k5, k6, k7, k8, k9, k10, k11⟩ := LS.adds_kept (lastR zs (kk + 1)) { LS.fresh 0 100 with next := 1, room := 48 * (((100 : Nat) : Int) - 8), life := life }
    have hcut : ∀ L : LS, L.start = 0 → L.n = 100 → L.fin = sizes (lastR zs (kk + 1)) → L.cutB ((DS.new 100).once 0 100 (lastR zs (kk + 1))) = none := fun L a b c => once_cutB hc hb (by omega) (by omega) (by omega) (by omega) a b c
    have hcode : ∀ (L : LS) (S : DS), L.cutB S = none → L.trimCode S = 0 := fun L S h => by unfold LS.trimCode; rw [h]
    have hO := Open_good 0 100 h1 (by omega) (by omega) (by rw [once_length hc, hl]; omega) (by rw [once_waits hc]; simp) (once_calm hc).dead (by rw [hset]; exact (once_calm hc).dead)
      (by rw [hset, once_head hc hb]; show (0 : Nat) < _; omega) (by rw [hset, once_head hc hb]; show (1 : Nat) < _; omega)
      (by rw [hset, hop]; exact hcode _ _ (hcut _ k1 k2 (by show LS.fin (LS.adds _ _) = _; rw [k7]; exact Nat.zero_add _)))
    rw [hset, hop] at hO
    refine hO.mono ?_
    rintro e w' ⟨p, rfl, hp, ⟨R, RD', hW, hR, hRD⟩, hf⟩
    refine ⟨p, rfl, _, R, hW.l, k3, ?_, ?_, k9, ?_, fun b hb => by have := hR b hb; omega, h3.step hf.fr h2⟩
    · show LS.next (LS.adds _ _) = _
      rw [k4, lastR_length]; show 1 + (kk + 1) = _; rw [if_pos rfl]; omega
    · show LS.rs (LS.adds _ _) = _
      rw [k8]; rfl
    · show LS.fin (LS.adds _ _) = _
      rw [k7]; exact Nat.zero_add _
theorem DSt.opened' {w : World} {d : Nat} {zs : List Int} {kk m : Nat} {dn : Bool} {wr : World} (h : DSt w d zs kk dn wr) (ha : dn = true → kk < 20) (hm : (if dn = true then kk + 1 else 0) = m) :
    Calls Try.prog 31 #[.pointer (some ⟨d, 0, none⟩), .int .i64 0, .int .i64 100] wr fun e w' => ∃ p, e = .returned (.tuple #[.pointer (some ⟨p, 0, none⟩), .int .i64 0]) ∧ OSt w p d zs m w' := by
  subst hm
  exact h.opened ha
theorem OSt.told {w : World} {p d : Nat} {zs : List Int} {m : Nat} {wr : World} (h : OSt w p d zs m wr) (hm : m ≤ 20) :
    Calls Try.prog 41 #[.pointer (some ⟨p, 0, none⟩)] wr fun e w' => ∃ A c, e = .returned (.tuple #[.slice A m c, .bool true]) ∧ w'.ownsRow wr.heap.size 9 1 (.slice A m c) m (strCells (lastR zs m)) ∧ Fr Nob wr w' := by
  obtain ⟨L, R, h1, h2, h3, h4, h5, h6, h7, h8⟩ := h
  have hl : L.l.length = m := by rw [← LS.rs_length, h4, lastR_length]
  have ht := told_any h1 (fun x hx => by
    have : x.1 ∈ L.rs := List.mem_map.2 ⟨x, hx, rfl⟩
    rw [h4] at this
    have := lastR_small zs _ _ this
    omega) (by omega) (by omega) (by omega)
  rw [hl, h4] at ht
  refine ht.mono ?_
  rintro e w' ⟨v, rfl, ho, hf⟩
  obtain ⟨A, c, rfl⟩ : ∃ A c, v = .slice A m c := by
    rcases ho.2 with ⟨e, e2⟩ | ⟨g, cap, cur, e, _⟩
    · rw [e2]; exact ⟨_, _, e⟩
    · exact ⟨_, _, e⟩
  exact ⟨A, c, rfl, ho, hf⟩
theorem OSt.appended {w : World} {p d : Nat} {zs : List Int} {m : Nat} {wr : World} (h : OSt w p d zs m wr) (hm : m ≤ 20) (g c : Nat) (b : List UInt8) (hb : BytesIn wr (some ⟨g, 0, none⟩) b) (hg : g < wr.heap.size) (hl : b.length ≤ 100) :
    Calls Try.prog 38 #[.pointer (some ⟨p, 0, none⟩), .slice (some ⟨g, 0, none⟩) b.length c] wr fun e w' => e = .returned (.tuple #[.int .u64 ((m + 1 : Nat) : Int), .int .i64 0]) ∧ New w w' := by
  obtain ⟨L, R, h1, h2, h3, h4, h5, h6, h7, h8⟩ := h
  have hz := lastR_sizes zs m
  have hll : L.l.length = m := by rw [← LS.rs_length, h4, lastR_length]
  have hap := Append_good ⟨g, 0, none⟩ c b h1 hb hg (by omega) (by rw [h5]; omega) (by omega) (by omega) (by omega) (by omega)
  rw [h3] at hap
  refine hap.mono ?_
  rintro e w' ⟨rfl, _, hf⟩
  exact ⟨rfl, h8.step hf h7⟩
end Go.Proofs.Ytieiopeblleheaa
