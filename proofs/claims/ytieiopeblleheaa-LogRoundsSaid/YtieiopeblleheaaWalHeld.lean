/-
  What a disk holds of a log, behind appends, flushes, cuts and openings (plain; a disk whose fuse is not lit).
-/
import Derived.Test.YtieiopeblleheaaWalCalm
import Derived.Test.YtieiopeblleheaaWalBeg
import Derived.Test.YtieiopeblleheaaWalCut
namespace Go.Proofs.Ytieiopeblleheaa
set_option linter.unusedSimpArgs false
set_option linter.unusedVariables false
open Go.RowKit

/-- The log's records stand from a0 on; the first f of them are on the disk. -/
structure Held (S : DS) (L : LS) (a0 f : Nat) : Prop where
  calm : Calm S
  waits : S.waits = []
  n0 : 16 ≤ L.n
  n1 : L.n ≤ 32768
  fits : L.start + L.n ≤ S.now.length
  laid : L.Laid a0
  nx : L.next = L.first + L.l.length
  fle : f ≤ L.l.length
  kept : L.kept = a0 + sizes (L.rs.take f)
  room : L.room = 48 * ((L.n : Int) - 8) - (sizes L.rs : Int)
  sect : ∃ pre m lf, pre.length = a0 % 48 ∧ Sects S L (a0 / 48) (pre ++ frames L.first (L.rs.take f)) m lf ∧ ∀ i, i < m → lf i ≤ L.life
  all : ∀ x, x < L.n - 2 → pGood (S.now.getD (L.start + 2 + x) []) = true → pNo (S.now.getD (L.start + 2 + x) []) < secs L.kept ∧ pLife (S.now.getD (L.start + 2 + x) []) ≤ L.life
  head : (L.turn = 0 ∧ L.first = 1 ∧ a0 = 0 ∧ hTurn (S.now.getD L.start []) = 0 ∧ hTurn (S.now.getD (L.start + 1) []) = 0) ∨
    (0 < L.turn ∧ 0 < L.first ∧ S.now.getD (L.start + L.turn % 2) [] = begB L.turn L.first a0 ∧ hTurn (S.now.getD (L.start + (L.turn + 1) % 2) []) < L.turn)

theorem Sects.cong {S S' : DS} {L L' : LS} {no0 : Nat} {bs : List UInt8} {m : Nat} {lf : Nat → Nat} (h : Sects S L no0 bs m lf) (h1 : L'.start = L.start) (h2 : L'.n = L.n) (h3 : ∀ x, S'.now.getD (L.place x) [] = S.now.getD (L.place x) []) : Sects S' L' no0 bs m lf :=
  { sec := fun i hi => by rw [place_eq h1 h2, h3]; exact h.sec i hi
    long := h.long
    short := h.short
    mono := h.mono
    lives := h.lives
    nos := h.nos
    fit := by rw [h2]; exact h.fit
    stop := by rw [place_eq h1 h2, h3, h2]; exact h.stop }

theorem Held.add {S : DS} {L : LS} {a0 f : Nat} (h : Held S L a0 f) (r : List UInt8) : Held S (L.add r) a0 f := by
  have hrs : (L.add r).rs.take f = L.rs.take f := by rw [LS.add_rs, List.take_append_of_le_length (by rw [LS.rs_length]; exact h.fle)]
  obtain ⟨pre, m, lf, h1, h2, h3⟩ := h.sect
  exact {
    calm := h.calm
    waits := h.waits
    n0 := h.n0
    n1 := h.n1
    fits := h.fits
    laid := h.laid.add r
    nx := by
      show L.next + 1 = L.first + (L.l ++ [_]).length
      rw [h.nx, List.length_append]; rfl
    fle := by
      show f ≤ (L.l ++ [_]).length
      have := h.fle
      rw [List.length_append]; omega
    kept := by rw [hrs]; exact h.kept
    room := by
      show L.room - (16 + r.length) = _
      rw [h.room, LS.add_rs, sizes_append]
      show _ = 48 * ((L.n : Int) - 8) - _
      simp [sizes]; omega
    sect := ⟨pre, m, lf, h1, by rw [hrs]; exact h2.cong rfl rfl (fun _ => rfl), h3⟩
    all := h.all
    head := h.head }

/-- What of a disk's sectors is told by their places. -/
theorem ring_place (L : LS) (hn : 16 ≤ L.n) (b x : Nat) (hx : x < L.n - 2) : ∃ i, i < L.n - 2 ∧ L.place (b + i) = L.start + 2 + x := by
  obtain ⟨r, hr⟩ : ∃ r, L.n - 2 = r := ⟨_, rfl⟩
  have hr0 : 0 < r := by omega
  rw [hr] at hx
  obtain ⟨q, hq⟩ : ∃ q, b % r = q := ⟨_, rfl⟩
  have hqr : q < r := by rw [← hq]; exact Nat.mod_lt _ hr0
  unfold LS.place
  rw [hr]
  rcases Nat.lt_or_ge x q with h | h
  · refine ⟨x + r - q, by omega, ?_⟩
    rw [Nat.add_mod, hq, Nat.mod_eq_of_lt (show x + r - q < r by omega), show q + (x + r - q) = x + r from by omega, Nat.add_mod_right, Nat.mod_eq_of_lt hx]
  · refine ⟨x - q, by omega, ?_⟩
    rw [Nat.add_mod, hq, Nat.mod_eq_of_lt (show x - q < r by omega), show q + (x - q) = x from by omega, Nat.mod_eq_of_lt hx]
theorem place_ring (L : LS) (hn : 16 ≤ L.n) (b : Nat) : ∃ x, x < L.n - 2 ∧ L.place b = L.start + 2 + x := ⟨b % (L.n - 2), Nat.mod_lt _ (by omega), rfl⟩

/-- What Flush writes, against what is there: from a sector number no0 + q on; what lies ahead of it is as it was. -/
theorem flush_parts {L : LS} {a0 f m : Nat} {pre : List UInt8} (hf : f ≤ L.rs.length) (hk : L.kept = a0 + sizes (L.rs.take f)) (hp : pre.length = a0 % 48) (hm : (pre ++ frames L.first (L.rs.take f)).length ≤ 48 * m) :
    ∃ pre' q, pre'.length = a0 % 48 ∧ L.from0 a0 / 48 = a0 / 48 + q ∧ q ≤ m ∧ L.wbs a0 = (pre' ++ frames L.first L.rs).drop (48 * q) ∧ 48 * q ≤ (pre' ++ frames L.first L.rs).length ∧
      ∀ i, i < q → ((pre' ++ frames L.first L.rs).drop (48 * i)).take 48 = ((pre ++ frames L.first (L.rs.take f)).drop (48 * i)).take 48 := by
  have hs := sizes_take_le L.rs f
  have hlen : (pre ++ frames L.first (L.rs.take f)).length = a0 % 48 + sizes (L.rs.take f) := by rw [List.length_append, frames_length, hp]
  by_cases hc : a0 ≤ L.kept / 48 * 48
  · have hfr : L.from0 a0 = L.kept / 48 * 48 := Nat.max_eq_left hc
    refine ⟨pre, L.kept / 48 - a0 / 48, hp, by rw [hfr]; omega, ?_, ?_, ?_, fun i hi => ?_⟩
    · rw [hlen] at hm; omega
    · unfold LS.wbs LS.tail
      rw [hfr, show L.kept / 48 * 48 % 48 = 0 from by omega, show zeros 0 = [] from rfl, List.nil_append, List.drop_append, List.drop_eq_nil_of_le (show pre.length ≤ 48 * (L.kept / 48 - a0 / 48) by omega), List.nil_append, hp]
      congr 1; omega
    · rw [List.length_append, frames_length]; omega
    · have e : pre ++ frames L.first L.rs = (pre ++ frames L.first (L.rs.take f)) ++ frames (L.first + f) (L.rs.drop f) := by
        rw [frames_take L.rs L.first f hf, List.append_assoc]
      rw [e, List.drop_append_of_le_length (by omega), List.take_append_of_le_length (by rw [List.length_drop]; omega)]
  · have hfr : L.from0 a0 = a0 := Nat.max_eq_right (by omega)
    refine ⟨zeros (a0 % 48), 0, zeros_length _, by rw [hfr]; rfl, Nat.zero_le _, ?_, Nat.zero_le _, fun i hi => absurd hi (by omega)⟩
    unfold LS.wbs LS.tail
    rw [hfr, Nat.sub_self]; rfl

/-- Behind a Flush. -/
theorem Held.flush {S : DS} {L : LS} {a0 f : Nat} (h : Held S L a0 f) (hpos : 0 < L.l.length) (hsz : a0 % 48 + sizes L.rs ≤ 48 * (L.n - 2)) (hno : L.fin < 48000000000000) (hlife : L.life < 281474976710656) :
    Held (L.wrote S (L.from0 a0 / 48) (L.wbs a0) (secs (L.wbs a0).length)).flushed L.flushed' a0 L.l.length := by
  obtain ⟨pre, m, lf, h1, h2, h3⟩ := h.sect
  obtain ⟨pre', q, p1, p2, p3, p4, p5, p6⟩ := flush_parts (f := f) (by rw [LS.rs_length]; exact h.fle) h.kept h1 h2.long
  have hfin := h.laid.fin
  have htk : L.rs.take L.l.length = L.rs := List.take_of_length_le (by rw [LS.rs_length]; exact Nat.le_refl _)
  have hge := sizes_ge L.rs
  rw [LS.rs_length] at hge
  obtain ⟨bs, hbs⟩ : ∃ bs, pre' ++ frames L.first L.rs = bs := ⟨_, rfl⟩
  have hbl : bs.length = a0 % 48 + sizes L.rs := by rw [← hbs, List.length_append, frames_length, p1]
  rw [hbs] at p4 p5 p6
  have hwl : (L.wbs a0).length = bs.length - 48 * q := by rw [p4, List.length_drop]
  have hsm : secs (L.wbs a0).length + q = secs bs.length := by rw [hwl]; unfold secs; omega
  have hsn : secs bs.length ≤ L.n - 2 := by unfold secs; omega
  have hsf : secs L.fin = a0 / 48 + secs bs.length := by unfold secs; omega
  obtain ⟨sb1, sb2, _, _⟩ := secs_bounds bs.length
  have hpl : ∀ x, L.place x < S.now.length := fun x => LS.place_lt h.n0 h.fits x
  obtain ⟨W, hW⟩ : ∃ W, L.wrote S (L.from0 a0 / 48) (L.wbs a0) (secs (L.wbs a0).length) = W := ⟨_, rfl⟩
  have hcalm : Calm W := by rw [← hW]; exact LS.wrote_calm L _ _ h.calm _
  have hlen : W.now.length = S.now.length := by rw [← hW]; exact LS.wrote_length _ _ _ _ _
  have hoth : ∀ x, (∀ i, i < secs (L.wbs a0).length → x ≠ L.place (a0 / 48 + q + i)) → W.now.getD x [] = S.now.getD x [] := by
    intro x hx
    rw [← hW, p2]
    exact LS.wrote_other L _ _ h.calm _ x hx
  have hat : ∀ i, i < secs (L.wbs a0).length → W.now.getD (L.place (a0 / 48 + q + i)) [] = sectB (a0 / 48 + q + i) L.life (((L.wbs a0).drop (48 * i)).take 48) := by
    intro i hi
    rw [← hW, p2]
    exact LS.wrote_at L _ _ h.calm hpl _ (by omega) i hi
  rw [hW]
  clear hW
  have hfl := hcalm.flushed_eq
  have hnow : W.flushed.now = W.now := by rw [hfl]
  have hck : ∀ i, ((bs.drop (48 * i)).take 48).length ≤ 48 := fun i => by rw [List.length_take]; omega
  have hck0 : ∀ i, i < secs bs.length → 0 < ((bs.drop (48 * i)).take 48).length := fun i hi => by
    have := sb2 (by omega)
    rw [List.length_take, List.length_drop]; omega
  have hall : ∀ x, x < L.n - 2 → pGood (W.now.getD (L.start + 2 + x) []) = true → pNo (W.now.getD (L.start + 2 + x) []) < secs L.fin ∧ pLife (W.now.getD (L.start + 2 + x) []) ≤ L.life := by
    intro x hx hg
    by_cases hex : ∃ i, i < secs (L.wbs a0).length ∧ L.start + 2 + x = L.place (a0 / 48 + q + i)
    · obtain ⟨i, hi, e⟩ := hex
      rw [e, hat i hi, p4, List.drop_drop, ← Nat.mul_add, sectB_no _ _ _ (hck _) (by unfold secs at *; omega), sectB_life _ _ _ (hck _) hlife]
      exact ⟨by omega, Nat.le_refl _⟩
    · rw [hoth _ (fun i hi e => hex ⟨i, hi, e⟩)] at hg ⊢
      have := h.all x hx hg
      have hkf : secs L.kept ≤ secs L.fin := by
        have := h.kept
        have := sizes_take_le L.rs f
        unfold secs; omega
      exact ⟨by omega, this.2⟩
  exact {
    calm := hcalm.flushed
    waits := by rw [hfl]
    n0 := h.n0
    n1 := h.n1
    fits := by rw [hnow, hlen]; exact h.fits
    laid := ⟨h.laid.at_, h.laid.fin⟩
    nx := h.nx
    fle := Nat.le_refl _
    kept := by
      show L.fin = a0 + sizes (L.rs.take L.l.length)
      rw [htk]; exact hfin
    room := h.room
    sect := by
      refine ⟨pre', secs bs.length, fun i => if i < q then lf i else L.life, p1, ?_, fun i hi => ?_⟩
      · show Sects _ _ _ (pre' ++ frames L.first (L.rs.take L.l.length)) _ _
        rw [htk, hbs]
        refine ⟨fun i hi => ?_, sb1, fun h0 => sb2 (by unfold secs at h0; omega), fun i j hij hj => ?_, fun i hi => ?_, by unfold secs at *; omega, hsn, fun he hlt hg => ?_⟩
        · rw [hnow]
          show W.now.getD (L.place (a0 / 48 + i)) [] = _
          by_cases hiq : i < q
          · rw [if_pos hiq, p6 i hiq, hoth _ (fun j hj => LS.place_inj L (by omega) (by omega))]
            exact h2.sec i (by omega)
          · rw [if_neg hiq, show a0 / 48 + i = a0 / 48 + q + (i - q) from by omega, hat (i - q) (by omega), p4, List.drop_drop, ← Nat.mul_add, show q + (i - q) = i from by omega]
        · show (if i < q then lf i else L.life) ≤ if j < q then lf j else L.life
          by_cases hi : i < q
          · by_cases hj' : j < q
            · rw [if_pos hi, if_pos hj']; exact h2.mono i j hij (by omega)
            · rw [if_pos hi, if_neg hj']; exact h3 i (by omega)
          · rw [if_neg hi, if_neg (by omega)]; exact Nat.le_refl _
        · show (if i < q then lf i else L.life) < _
          split
          · exact h2.lives i (by omega)
          · exact hlife
        · have hg : pGood (W.now.getD (L.place (a0 / 48 + secs bs.length)) []) = true ∧ pNo (W.now.getD (L.place (a0 / 48 + secs bs.length)) []) = a0 / 48 + secs bs.length := by rw [hnow] at hg; exact hg
          obtain ⟨x, hx, e⟩ := place_ring L h.n0 (a0 / 48 + secs bs.length)
          rw [e] at hg
          have := (hall x hx hg.1).1
          omega
      · show (if i < q then lf i else L.life) ≤ L.life
        split
        · exact h3 i (by omega)
        · exact Nat.le_refl _
    all := fun x hx hg => by
      rw [hnow] at hg ⊢
      exact hall x hx hg
    head := by
      have ho : ∀ x, x < 2 → W.now.getD (L.start + x) [] = S.now.getD (L.start + x) [] := fun x hx => hoth _ (fun i _ e => by unfold LS.place at e; omega)
      rw [hnow]
      show (L.turn = 0 ∧ L.first = 1 ∧ a0 = 0 ∧ hTurn (W.now.getD (L.start + 0) []) = 0 ∧ hTurn (W.now.getD (L.start + 1) []) = 0) ∨
        (0 < L.turn ∧ 0 < L.first ∧ W.now.getD (L.start + L.turn % 2) [] = begB L.turn L.first a0 ∧ hTurn (W.now.getD (L.start + (L.turn + 1) % 2) []) < L.turn)
      rw [ho 0 (by omega), ho 1 (by omega), ho _ (by omega), ho _ (by omega)]
      exact h.head }

/-- Behind a Cut of k of a log whose records are all on the disk. -/
theorem LS.rs_drop (L : LS) (k : Nat) : ({ L with l := L.l.drop k } : LS).rs = L.rs.drop k := by simp [LS.rs]
theorem Held.cut {S : DS} {L : LS} {a0 : Nat} (h : Held S L a0 L.l.length) (k : Nat) (hk0 : 0 < k) (hk : k < L.l.length) (hturn : L.turn + 1 < 18446744073709551616) (hfirst : L.first + k < 18446744073709551616) (hfin : L.fin < 18446744073709551616) :
    Held (S.wr (L.start + (L.turn + 1) % 2) (begB (L.turn + 1) (L.first + k) L.l[k].2)).flushed (L.cut k) L.l[k].2 (L.l.length - k) := by
  obtain ⟨pre, m, lf, h1, h2, h3⟩ := h.sect
  have htk : L.rs.take L.l.length = L.rs := List.take_of_length_le (by rw [LS.rs_length]; exact Nat.le_refl _)
  rw [htk] at h2
  have hat := h.laid.at_ k hk
  obtain ⟨a1, ha1⟩ : ∃ a, L.l[k].2 = a := ⟨_, rfl⟩
  rw [ha1] at hat ⊢
  have hsp := sizes_append (L.rs.take k) (L.rs.drop k)
  rw [List.take_append_drop] at hsp
  have hfn := h.laid.fin
  have hkp := h.kept
  rw [htk] at hkp
  have hcr : (L.cut k).rs = L.rs.drop k := LS.rs_drop L k
  have hdk : (L.rs.drop k).take (L.l.length - k) = L.rs.drop k := List.take_of_length_le (by rw [List.length_drop, LS.rs_length]; exact Nat.le_refl _)
  obtain ⟨B, hB⟩ : ∃ B, begB (L.turn + 1) (L.first + k) a1 = B := ⟨_, rfl⟩
  rw [hB]
  have hcw := h.calm.wr (L.start + (L.turn + 1) % 2) B
  have hnow : (S.wr (L.start + (L.turn + 1) % 2) B).flushed.now = S.now.set (L.start + (L.turn + 1) % 2) B := by
    rw [hcw.flushed_eq]
    exact h.calm.wr_now _ _
  have hf := h.fits
  have hn0 := h.n0
  have hoth : ∀ x, x ≠ L.start + (L.turn + 1) % 2 → (S.now.set (L.start + (L.turn + 1) % 2) B).getD x [] = S.now.getD x [] := by
    intro x hx
    rw [List.getD_eq_getElem?_getD, List.getElem?_set, if_neg (fun e => hx e.symm), ← List.getD_eq_getElem?_getD]
  have hown : (S.now.set (L.start + (L.turn + 1) % 2) B).getD (L.start + (L.turn + 1) % 2) [] = B := by
    rw [List.getD_eq_getElem?_getD, List.getElem?_set, if_pos rfl, if_pos (by omega)]; rfl
  have hring : ∀ x, (S.now.set (L.start + (L.turn + 1) % 2) B).getD (L.place x) [] = S.now.getD (L.place x) [] := fun x => hoth _ (by unfold LS.place; omega)
  have hring2 : ∀ x, (S.now.set (L.start + (L.turn + 1) % 2) B).getD (L.start + 2 + x) [] = S.now.getD (L.start + 2 + x) [] := fun x => hoth _ (by omega)
  obtain ⟨bs, hbs⟩ : ∃ bs, pre ++ frames L.first L.rs = bs := ⟨_, rfl⟩
  rw [hbs] at h2
  have hbl : bs.length = a0 % 48 + sizes L.rs := by rw [← hbs, List.length_append, frames_length, h1]
  obtain ⟨s, hs⟩ : ∃ s, a1 / 48 - a0 / 48 = s := ⟨_, rfl⟩
  have hbs2 : bs.drop (48 * s) = (pre ++ frames L.first (L.rs.take k)).drop (48 * s) ++ frames (L.first + k) (L.rs.drop k) := by
    rw [← hbs, frames_take L.rs L.first k (by rw [LS.rs_length]; omega), ← List.append_assoc, List.drop_append_of_le_length (by rw [List.length_append, frames_length, h1]; omega)]
  have hge := sizes_ge (L.rs.drop k)
  rw [List.length_drop, LS.rs_length] at hge
  have hsh := h2.short (by have := h2.long; omega)
  have hlo := h2.long
  have hsm : s ≤ m := by omega
  exact {
    calm := hcw.flushed
    waits := by rw [hcw.flushed_eq]
    n0 := h.n0
    n1 := h.n1
    fits := by rw [hnow, List.length_set]; exact h.fits
    laid := by
      refine ⟨fun i hi => ?_, ?_⟩
      · have hi' : i < (L.l.drop k).length := hi
        have e : (L.l.drop k)[i]'hi' = L.l[k + i]'(by rw [List.length_drop] at hi'; omega) := List.getElem_drop
        show ((L.l.drop k)[i]'hi').2 = _
        rw [List.length_drop] at hi'
        rw [e, h.laid.at_ (k + i) (by omega), hcr, List.take_add, sizes_append, hat]
        omega
      · rw [hcr, hat]
        show L.fin = _
        omega
    nx := by
      show L.next = L.first + k + (L.l.drop k).length
      rw [List.length_drop, h.nx]; omega
    fle := by
      show _ ≤ (L.l.drop k).length
      rw [List.length_drop]; exact Nat.le_refl _
    kept := by
      rw [hcr, hdk, hat]
      show L.kept = _
      omega
    room := by
      rw [hcr]
      show L.room + (sizes (L.rs.take k) : Int) = 48 * ((L.n : Int) - 8) - _
      rw [h.room]; omega
    sect := by
      refine ⟨(pre ++ frames L.first (L.rs.take k)).drop (48 * s), m - s, fun i => lf (s + i), ?_, ?_, fun i hi => h3 _ (by omega)⟩
      · rw [List.length_drop, List.length_append, frames_length, h1]; omega
      · rw [hcr, hdk]
        show Sects _ _ _ (_ ++ frames (L.first + k) (L.rs.drop k)) _ _
        rw [← hbs2]
        have hlen : (bs.drop (48 * s)).length = bs.length - 48 * s := List.length_drop
        have e1 : a1 / 48 = a0 / 48 + s := by omega
        refine ⟨fun i hi => ?_, by rw [hlen]; omega, fun h0 => by rw [hlen]; omega, fun i j hij hj => h2.mono _ _ (by omega) (by omega), fun i hi => h2.lives _ (by omega), by have := h2.nos; omega, by have := h2.fit; show _ ≤ L.n - 2; omega, fun he hlt hg => ?_⟩
        · rw [hnow]
          show (S.now.set (L.start + (L.turn + 1) % 2) B).getD (L.place (a1 / 48 + i)) [] = _
          rw [hring, e1, List.drop_drop, ← Nat.mul_add, Nat.add_assoc]
          exact h2.sec (s + i) (by omega)
        · have hg : pGood ((S.now.set (L.start + (L.turn + 1) % 2) B).getD (L.place (a1 / 48 + (m - s))) []) = true ∧ pNo ((S.now.set (L.start + (L.turn + 1) % 2) B).getD (L.place (a1 / 48 + (m - s))) []) = a1 / 48 + (m - s) := by rw [hnow] at hg; exact hg
          rw [hring, e1, Nat.add_assoc, show s + (m - s) = m from by omega] at hg
          obtain ⟨x, hx, e⟩ := place_ring L h.n0 (a0 / 48 + m)
          rw [e] at hg
          have := (h.all x hx hg.1).1
          have : secs L.kept ≤ a0 / 48 + m := by unfold secs; omega
          omega
    all := fun x hx hg => by
      rw [hnow] at hg ⊢
      rw [show (L.cut k).start = L.start from rfl, hring2] at hg ⊢
      exact h.all x hx hg
    head := by
      refine .inr ⟨Nat.succ_pos _, by show 0 < L.first + k; omega, ?_, ?_⟩
      · rw [hnow]
        show (S.now.set (L.start + (L.turn + 1) % 2) B).getD (L.start + (L.turn + 1) % 2) [] = begB (L.turn + 1) (L.first + k) a1
        rw [hown, hB]
      · rw [hnow]
        show hTurn ((S.now.set (L.start + (L.turn + 1) % 2) B).getD (L.start + (L.turn + 1 + 1) % 2) []) < L.turn + 1
        rw [hoth _ (by omega)]
        rcases h.head with ⟨t0, _, _, t1, t2⟩ | ⟨t0, _, t1, _⟩
        · rw [t0, show (0 + 1 + 1) % 2 = 0 from rfl, Nat.add_zero, t1]; omega
        · rw [show (L.turn + 1 + 1) % 2 = L.turn % 2 from by omega, t1, begB_turn _ _ _ (by omega)]; omega }

/-- What a log that is opened finds in the heads. -/
theorem Held.opHead {S : DS} {L : LS} {a0 f : Nat} (h : Held S L a0 f) (hturn : L.turn < 18446744073709551616) (hfirst : L.first < 18446744073709551616) (ha : a0 < 18446744073709551616) :
    LS.opHead L.start L.n S = { LS.fresh L.start L.n with turn := L.turn, first := L.first, fin := a0, next := L.first, room := 48 * ((L.n : Int) - 8) } := by
  have key : (LS.fresh L.start L.n).readHead S = { LS.fresh L.start L.n with turn := L.turn, first := L.first, fin := a0 } := by
    unfold LS.readHead
    rw [if_neg (by rw [h.calm.dead]; decide)]
    simp only [LS.heads]
    show ((LS.fresh L.start L.n).head (S.now.getD (L.start + 0) [])).head (S.now.getD (L.start + 1) []) = _
    rw [Nat.add_zero]
    rcases h.head with ⟨t0, t1, t2, t3, t4⟩ | ⟨t0, t1, t2, t3⟩
    · have e : ∀ b, hTurn b = 0 → (LS.fresh L.start L.n).head b = LS.fresh L.start L.n := fun b hb => by
        unfold LS.head
        rw [if_neg (fun hc => by have := hc.2.1; omega)]
      rw [e _ t3, e _ t4, t0, t1, t2]; rfl
    · rcases Nat.mod_two_eq_zero_or_one L.turn with hm | hm
      · rw [hm, Nat.add_zero] at t2
        rw [show (L.turn + 1) % 2 = 1 from by omega] at t3
        rw [t2, LS.head_beg _ _ _ _ t1 hturn hfirst ha, if_pos (by show 0 < L.turn; exact t0)]
        unfold LS.head
        rw [if_neg (fun hc => by have := hc.2.1; dsimp only at this; omega)]
      · rw [hm] at t2
        rw [show (L.turn + 1) % 2 = 0 from by omega, Nat.add_zero] at t3
        rw [t2, LS.head_beg _ _ _ _ t1 hturn hfirst ha]
        unfold LS.head
        by_cases hc : 0 < hLsn (S.now.getD L.start []) ∧ (LS.fresh L.start L.n).turn < hTurn (S.now.getD L.start []) ∧ begB (hTurn (S.now.getD L.start [])) (hLsn (S.now.getD L.start [])) (hAt (S.now.getD L.start [])) = S.now.getD L.start []
        · rw [if_pos hc, if_pos (by exact t3)]
        · rw [if_neg hc, if_pos (by show 0 < L.turn; exact t0)]
  unfold LS.opHead
  rw [key]

theorem LS.str_ml_ge {L : LS} {S : DS} (k : Nat) : (∀ i, i < k → pGood (S.now.getD (L.place (L.fin / 48 + i)) []) = true → pLife (S.now.getD (L.place (L.fin / 48 + i)) []) ≤ (L.str S k).ml) := by
  induction k with
  | zero => intro i hi; omega
  | succ k ih =>
    intro i hi hg
    have mono : (L.str S k).ml ≤ (L.str S (k + 1)).ml := by
      simp only [LS.str]
      unfold St.step
      split
      · exact Nat.le_max_left _ _
      · dsimp only
        split
        · exact Nat.le_max_left _ _
        · exact Nat.le_refl _
    rcases Nat.lt_or_ge i k with h | h
    · exact Nat.le_trans (ih i h hg) mono
    · obtain rfl : i = k := by omega
      simp only [LS.str]
      unfold St.step
      split
      · exact Nat.le_max_right _ _
      · dsimp only
        first
          | exact Nat.le_max_right _ _
          | (rw [if_pos hg]; exact Nat.le_max_right _ _)
theorem LS.str_ml_le {L : LS} {S : DS} (B : Nat) (hB : L.life ≤ B) (k : Nat) (h : ∀ i, i < k → pGood (S.now.getD (L.place (L.fin / 48 + i)) []) = true → pLife (S.now.getD (L.place (L.fin / 48 + i)) []) ≤ B) : (L.str S k).ml ≤ B := by
  induction k with
  | zero => exact hB
  | succ k ih =>
    have ih := ih (fun i hi => h i (by omega))
    simp only [LS.str]
    unfold St.step
    split
    · rename_i hc
      exact Nat.max_le.2 ⟨ih, h k (by omega) hc.2.1⟩
    · dsimp only
      split
      · rename_i hg
        exact Nat.max_le.2 ⟨ih, h k (by omega) hg⟩
      · exact ih

/-- What Open finds. -/
theorem Held.opened {S : DS} {L : LS} {a0 : Nat} (h : Held S L a0 L.l.length) (hturn : L.turn < 18446744073709551616) (hnext : L.next < 4611686018427387904) (hfin : L.fin < 48000000000000) (hsm : ∀ r ∈ L.rs, r.length ≤ 2000) :
    ∃ L', LS.opened L.start L.n S = L' ∧ Held S L' a0 L.l.length ∧ L'.start = L.start ∧ L'.n = L.n ∧ L'.rs = L.rs ∧ L'.first = L.first ∧ L'.next = L.next ∧ L'.fin = L.fin ∧ L'.kept = L.fin ∧ L'.turn = L.turn ∧ L'.life ≤ L.life + 1 ∧ L'.cutB S = none := by
  have hfn := h.laid.fin
  have hnx := h.nx
  have htk : L.rs.take L.l.length = L.rs := List.take_of_length_le (by rw [LS.rs_length]; exact Nat.le_refl _)
  have hkp := h.kept
  rw [htk, ← hfn] at hkp
  obtain ⟨pre, m, lf, h1, h2, h3⟩ := h.sect
  rw [htk] at h2
  have hge := sizes_ge L.rs
  rw [LS.rs_length] at hge
  have hh := h.opHead hturn (by omega) (by omega)
  obtain ⟨H, hH⟩ : ∃ H, LS.opHead L.start L.n S = H := ⟨_, rfl⟩
  rw [hH] at hh
  have hHf : H.fin = a0 := by rw [hh]
  have hHn : H.n = L.n := by rw [hh]; rfl
  have hHs : H.start = L.start := by rw [hh]; rfl
  have hHx : H.next = L.first := by rw [hh]
  have hby : H.bytes S = frames L.first L.rs := by
    have := (h2.cong (L' := H) hHs hHn (fun _ => rfl)).bytes (by rw [hHf])
    rw [this, hHf, List.drop_append_of_le_length (by omega), List.drop_eq_nil_of_le (by omega), List.nil_append]
  have htf := take_frames L.rs (H.streamed S) (frames L.first L.rs).length (by rw [frames_length, LS.rs_length]; omega) hsm (by show H.next + _ < _; rw [hHx, LS.rs_length]; omega)
  rw [show (H.streamed S).next = L.first from hHx] at htf
  obtain ⟨life, hlife⟩ : ∃ life, (H.str S (H.n - 2)).ml = life := ⟨_, rfl⟩
  have hst : H.streamed S = { LS.fresh L.start L.n with turn := L.turn, first := L.first, fin := a0, next := L.first, room := 48 * ((L.n : Int) - 8), life := life } := by
    unfold LS.streamed; rw [hlife, hh]
  have hlo : ∀ x, x < L.n - 2 → pGood (S.now.getD (L.start + 2 + x) []) = true → pLife (S.now.getD (L.start + 2 + x) []) ≤ life := by
    intro x hx hg
    obtain ⟨i, hi, e⟩ := ring_place L h.n0 (H.fin / 48) x hx
    rw [← e, ← place_eq hHs hHn] at hg ⊢
    rw [← hlife]
    exact LS.str_ml_ge (H.n - 2) i (by rw [hHn]; exact hi) hg
  have hup : life ≤ L.life := by
    rw [← hlife]
    refine LS.str_ml_le _ (by rw [hh]; exact Nat.zero_le _) _ (fun i hi hg => ?_)
    obtain ⟨x, hx, e⟩ := place_ring L h.n0 (H.fin / 48 + i)
    rw [place_eq hHs hHn, e] at hg ⊢
    exact (h.all x hx hg).2
  obtain ⟨K, hK⟩ : ∃ K, (H.streamed S).adds L.rs = K := ⟨_, rfl⟩
  rw [hK] at htf
  have hLd : K.Laid a0 := by
    rw [← hK, hst]
    exact LS.Laid.adds _ ⟨fun i hi => absurd hi (by show ¬ i < 0; omega), rfl⟩
  obtain ⟨k1, k2, k3, k4, k5, k6, k7, k8, k9, k10, k11⟩ := LS.adds_kept L.rs (H.streamed S)
  rw [hK, hst] at k1 k2 k3 k4 k5 k6 k7 k8 k9 k10 k11
  have k1 : K.start = L.start := k1
  have k2 : K.n = L.n := k2
  have k3 : K.first = L.first := k3
  have k11 : K.turn = L.turn := k11
  have k9 : K.room = 48 * ((L.n : Int) - 8) - (sizes L.rs : Int) := k9
  have k5 : K.life = life := k5
  have k8 : K.rs = L.rs := k8
  have k4 : K.next = L.next := by rw [k4, LS.rs_length]; exact hnx.symm
  have k7 : K.fin = L.fin := by rw [k7]; exact hfn.symm
  have hop : LS.opened L.start L.n S = { K with life := life + 1, kept := K.fin, flushed := K.next - 1 } := by
    unfold LS.opened LS.opTake
    rw [hH]
    dsimp only
    rw [hby, htf, k5]
  have hKl : K.l.length = L.l.length := by rw [← LS.rs_length, k8, LS.rs_length]
  refine ⟨_, hop, ?_, k1, k2, k8, k3, k4, k7, k7, k11, by show life + 1 ≤ _; omega, ?_⟩
  · exact {
      calm := h.calm
      waits := h.waits
      n0 := by show 16 ≤ K.n; rw [k2]; exact h.n0
      n1 := by show K.n ≤ _; rw [k2]; exact h.n1
      fits := by show K.start + K.n ≤ _; rw [k1, k2]; exact h.fits
      laid := ⟨hLd.at_, hLd.fin⟩
      nx := by show K.next = K.first + K.l.length; rw [k4, k3, hKl]; exact hnx
      fle := by show _ ≤ K.l.length; rw [hKl]; exact Nat.le_refl _
      kept := by show K.fin = a0 + sizes (K.rs.take _); rw [k8, k7, htk]; exact hfn
      room := by
        show K.room = 48 * ((K.n : Int) - 8) - (sizes K.rs : Int)
        rw [k9, k8, k2]
      sect := by
        refine ⟨pre, m, lf, h1, ?_, fun i hi => ?_⟩
        · show Sects _ _ _ (pre ++ frames K.first (K.rs.take _)) _ _
          rw [k3, k8, htk]
          exact h2.cong k1 k2 (fun _ => rfl)
        · have hs := h2.sec i hi
          obtain ⟨x, hx, e⟩ := place_ring L h.n0 (a0 / 48 + i)
          rw [e] at hs
          have hcl : (((pre ++ frames L.first L.rs).drop (48 * i)).take 48).length ≤ 48 := by rw [List.length_take]; omega
          have hsh := h2.short (by omega)
          have hc0 : 0 < (((pre ++ frames L.first L.rs).drop (48 * i)).take 48).length := by
            rw [List.length_take, List.length_drop]; omega
          have hg : pGood (S.now.getD (L.start + 2 + x) []) = true := by
            rw [hs]
            exact sectB_good _ _ _ hcl hc0 (by have := h2.nos; omega) (h2.lives i hi)
          have := hlo x hx hg
          rw [hs, sectB_life _ _ _ hcl (h2.lives i hi)] at this
          show lf i ≤ life + 1
          omega
      all := fun x hx hg => by
        have hx : x < K.n - 2 := hx
        have hg : pGood (S.now.getD (K.start + 2 + x) []) = true := hg
        show pNo (S.now.getD (K.start + 2 + x) []) < secs K.fin ∧ pLife (S.now.getD (K.start + 2 + x) []) ≤ life + 1
        rw [k1] at hg ⊢
        rw [k2] at hx
        have := h.all x hx hg
        have := hlo x hx hg
        rw [k7, ← hkp]
        omega
      head := by
        show (K.turn = 0 ∧ K.first = 1 ∧ a0 = 0 ∧ hTurn (S.now.getD K.start []) = 0 ∧ hTurn (S.now.getD (K.start + 1) []) = 0) ∨
          (0 < K.turn ∧ 0 < K.first ∧ S.now.getD (K.start + K.turn % 2) [] = begB K.turn K.first a0 ∧ hTurn (S.now.getD (K.start + (K.turn + 1) % 2) []) < K.turn)
        rw [k1, k3, k11]
        exact h.head }
  · unfold LS.cutB
    dsimp only
    rw [place_eq (L := { K with life := life + 1, kept := K.fin, flushed := K.next - 1 }) (L' := L) k1 k2, k7]
    have hbl : (pre ++ frames L.first L.rs).length = a0 % 48 + sizes L.rs := by rw [List.length_append, frames_length, h1]
    have hsh := h2.short
    have hlg := h2.long
    rw [if_neg]
    rintro ⟨hg, hno, hn⟩
    obtain ⟨x, hx, e⟩ := place_ring L h.n0 (L.fin / 48)
    by_cases h0 : L.fin % 48 = 0
    · rw [e] at hg hno
      have := (h.all x hx hg).1
      rw [hkp] at this
      have : secs L.fin = L.fin / 48 := by unfold secs; omega
      omega
    · have hs := h2.sec (L.fin / 48 - a0 / 48) (by omega)
      rw [show a0 / 48 + (L.fin / 48 - a0 / 48) = L.fin / 48 from by omega] at hs
      have hl : (((pre ++ frames L.first L.rs).drop (48 * (L.fin / 48 - a0 / 48))).take 48).length = L.fin % 48 := by
        rw [List.length_take, List.length_drop, hbl]; omega
      rw [hs, sectB_n _ _ _ (by rw [hl]; omega), hl] at hn
      omega
/-- A log that was just opened on a disk of noughts. -/
theorem Held.new {N : Nat} (at_ n : Nat) (h16 : 16 ≤ n) (hmost : n ≤ 32768) (hat : at_ + n ≤ N) : Held (DS.new N) (LS.empty at_ n) 0 0 := by
  have hb := Bare.new N
  exact {
    calm := Calm.new N
    waits := rfl
    n0 := h16
    n1 := hmost
    fits := by rw [(DS.new_facts N).1]; exact hat
    laid := ⟨fun i hi => absurd hi (by show ¬ i < 0; omega), rfl⟩
    nx := rfl
    fle := Nat.le_refl _
    kept := rfl
    room := by show 48 * ((n : Int) - 8) = 48 * ((n : Int) - 8) - ((0 : Nat) : Int); omega
    sect := ⟨[], 0, fun _ => 0, rfl, ⟨fun i hi => absurd hi (by omega), Nat.le_refl _, fun h => absurd h (by omega), fun _ _ _ h => absurd h (by omega), fun i hi => absurd hi (by omega), by omega, Nat.zero_le _, fun _ _ hg => by
      have := hg.1
      rw [hb.good] at this; cases this⟩, fun i hi => absurd hi (by omega)⟩
    all := fun x _ hg => by rw [hb.good] at hg; cases hg
    head := by
      have ht : ∀ i, hTurn ((DS.new N).now.getD i []) = 0 := fun i => by
        rcases hb i with e | e <;> rw [e]
        · exact nought_part 8 8
        · rfl
      exact .inl ⟨rfl, rfl, rfl, ht _, ht _⟩ }
end Go.Proofs.Ytieiopeblleheaa
