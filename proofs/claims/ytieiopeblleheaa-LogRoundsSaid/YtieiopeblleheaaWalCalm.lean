/-
  A disk whose fuse is not lit, behind a log's Flush and a crash that keeps nothing; the log that is opened there has the records that were flushed.
-/
import Derived.Test.YtieiopeblleheaaWalFlush
import Derived.Test.YtieiopeblleheaaWalRec
namespace Go.Proofs.Ytieiopeblleheaa
set_option linter.unusedSimpArgs false
set_option linter.unusedVariables false
open Go.RowKit

/-- A disk that nothing threatens: what is read is what lasts with what waits. -/
structure Calm (S : DS) : Prop where
  fuse : S.fuse = -1
  dead : S.dead = false
  sum : setAll S.last S.waits = S.now
theorem Calm.new (n : Nat) : Calm (DS.new n) := ⟨rfl, rfl, rfl⟩
theorem Calm.wr_eq {S : DS} (h : Calm S) (i : Nat) (s : List UInt8) : S.wr i s = S.wr0 i s := by
  unfold DS.wr DS.burn
  rw [if_neg (by show ¬ 0 < S.fuse; rw [h.fuse]; omega)]
theorem Calm.wr {S : DS} (h : Calm S) (i : Nat) (s : List UInt8) : Calm (S.wr i s) := by
  rw [h.wr_eq]
  refine ⟨h.fuse, h.dead, ?_⟩
  show setAll S.last (S.waits ++ [(i, s)]) = S.now.set i s
  rw [setAll_snoc, h.sum]
theorem Calm.wr_now {S : DS} (h : Calm S) (i : Nat) (s : List UInt8) : (S.wr i s).now = S.now.set i s := by
  rw [h.wr_eq]; rfl
theorem Calm.flushed_eq {S : DS} (h : Calm S) : S.flushed = { S with last := S.now, waits := [] } := by
  unfold DS.flushed
  rw [if_neg (by rw [h.dead]; decide)]
  unfold DS.flush DS.burn
  rw [if_neg (by show ¬ 0 < S.fuse; rw [h.fuse]; omega)]
  unfold DS.flush0
  rw [h.sum]
theorem Calm.flushed {S : DS} (h : Calm S) : Calm S.flushed := by
  rw [h.flushed_eq]
  exact ⟨h.fuse, h.dead, rfl⟩
theorem chosen_nil0 {β : Type} (keep : List Int) : chosen keep ([] : List β) = [] := rfl
/-- A crash of a disk on which nothing waits. -/
theorem Calm.crash {S : DS} (h : Calm S) (hw : S.waits = []) (keep : List Int) : S.crash keep = S := by
  have hs := h.sum
  rw [hw] at hs
  have hl : S.last = S.now := hs
  unfold DS.crash
  rw [hw, chosen_nil0, setAll_nil, hl]
  have h1 := h.fuse
  have h2 := h.dead
  cases S
  simp_all
theorem LS.wrote_calm (L : LS) {S : DS} (no : Nat) (bs : List UInt8) (h : Calm S) : ∀ j, Calm (L.wrote S no bs j)
  | 0 => h
  | j + 1 => (LS.wrote_calm L no bs h j).wr _ _
theorem mod_inj {a b m : Nat} (h : a < b) (hm : b < a + m) : a % m ≠ b % m := fun e => by
  have h1 := Nat.sub_mod_eq_zero_of_mod_eq e.symm
  rw [Nat.mod_eq_of_lt (by omega)] at h1
  omega
theorem LS.place_inj (L : LS) {a b : Nat} (h : a < b) (hm : b < a + (L.n - 2)) : L.place a ≠ L.place b := fun e => by
  have := mod_inj h hm
  unfold LS.place at e
  omega
theorem LS.wrote_other (L : LS) {S : DS} (no : Nat) (bs : List UInt8) (h : Calm S) : ∀ j x, (∀ i, i < j → x ≠ L.place (no + i)) → (L.wrote S no bs j).now.getD x [] = S.now.getD x []
  | 0, _, _ => rfl
  | j + 1, x, hx => by
    simp only [LS.wrote]
    rw [(LS.wrote_calm L no bs h j).wr_now, List.getD_eq_getElem?_getD, List.getElem?_set, if_neg (fun e => hx j (by omega) e.symm), ← List.getD_eq_getElem?_getD]
    exact LS.wrote_other L no bs h j x (fun i hi => hx i (by omega))
theorem LS.wrote_at (L : LS) {S : DS} (no : Nat) (bs : List UInt8) (h : Calm S) (hp : ∀ x, L.place x < S.now.length) : ∀ j, j ≤ L.n - 2 → ∀ i, i < j → (L.wrote S no bs j).now.getD (L.place (no + i)) [] = sectB (no + i) L.life ((bs.drop (48 * i)).take 48)
  | 0, _, i, hi => by omega
  | j + 1, hj, i, hi => by
    simp only [LS.wrote]
    rw [(LS.wrote_calm L no bs h j).wr_now, List.getD_eq_getElem?_getD, List.getElem?_set]
    by_cases e : i = j
    · subst e
      rw [if_pos rfl, if_pos (by rw [LS.wrote_length]; exact hp _)]
      rfl
    · rw [if_neg (LS.place_inj L (a := no + i) (b := no + j) (by omega) (by omega)).symm, ← List.getD_eq_getElem?_getD]
      exact LS.wrote_at L no bs h hp j (by omega) i (by omega)

/-- A log that has taken records. -/
theorem LS.add_rs (L : LS) (r : List UInt8) : (L.add r).rs = L.rs ++ [r] := by simp [LS.rs, LS.add]
theorem LS.Laid.add {L : LS} {a0 : Nat} (h : L.Laid a0) (r : List UInt8) : (L.add r).Laid a0 := by
  refine ⟨fun i hi => ?_, ?_⟩
  · have hl : (L.add r).l = L.l ++ [(r, L.fin)] := rfl
    have hi' : i < L.l.length + 1 := by rw [hl] at hi; simpa using hi
    rw [LS.add_rs]
    by_cases e : i < L.l.length
    · have e1 : (L.add r).l[i] = L.l[i] := by
        have : (L.l ++ [(r, L.fin)])[i]'(by simp; omega) = L.l[i] := List.getElem_append_left e
        exact this
      rw [e1, h.at_ i e, List.take_append_of_le_length (by rw [LS.rs_length]; omega)]
    · obtain rfl : i = L.l.length := by omega
      have e1 : (L.add r).l[L.l.length] = (r, L.fin) := by
        have : (L.l ++ [(r, L.fin)])[L.l.length]'(by simp) = (r, L.fin) := by simp
        exact this
      rw [e1, List.take_append_of_le_length (by rw [LS.rs_length]; omega), List.take_of_length_le (by rw [LS.rs_length]; omega)]
      exact h.fin
  · rw [LS.add_rs, sizes_append]
    show L.fin + (16 + r.length) = _
    rw [h.fin]
    simp [sizes]; omega
theorem LS.Laid.adds {a0 : Nat} : ∀ (rs : List (List UInt8)) {L : LS}, L.Laid a0 → (L.adds rs).Laid a0
  | [], _, h => h
  | r :: rs, _, h => LS.Laid.adds rs (h.add r)
theorem LS.adds_kept : ∀ (rs : List (List UInt8)) (L : LS), (L.adds rs).start = L.start ∧ (L.adds rs).n = L.n ∧ (L.adds rs).first = L.first ∧ (L.adds rs).next = L.next + rs.length ∧ (L.adds rs).life = L.life ∧ (L.adds rs).kept = L.kept ∧ (L.adds rs).fin = L.fin + sizes rs ∧ (L.adds rs).rs = L.rs ++ rs ∧ (L.adds rs).room = L.room - (sizes rs : Int) ∧ (L.adds rs).flushed = L.flushed ∧ (L.adds rs).turn = L.turn
  | [], L => ⟨rfl, rfl, rfl, rfl, rfl, rfl, rfl, by simp [LS.adds], by simp [LS.adds, sizes], rfl, rfl⟩
  | r :: rs, L => by
    obtain ⟨h1, h2, h3, h4, h5, h6, h7, h8, h9, h10, h11⟩ := LS.adds_kept rs (L.add r)
    have es : sizes (r :: rs) = 16 + r.length + sizes rs := by simp [sizes]
    refine ⟨h1, h2, h3, ?_, h5, h6, ?_, ?_, ?_, h10, h11⟩
    · show (LS.adds (L.add r) rs).next = _
      rw [h4]; show L.next + 1 + rs.length = L.next + (rs.length + 1); omega
    · show (LS.adds (L.add r) rs).fin = _
      rw [h7, es]; show L.fin + (16 + r.length) + sizes rs = _; omega
    · show (LS.adds (L.add r) rs).rs = _
      rw [h8, LS.add_rs]; simp
    · show (LS.adds (L.add r) rs).room = _
      rw [h9, es]; show L.room - (16 + r.length) - _ = _; omega
theorem LS.adds_snoc : ∀ (rs : List (List UInt8)) (L : LS) (r : List UInt8), L.adds (rs ++ [r]) = (L.adds rs).add r
  | [], _, _ => rfl
  | _ :: rs, L, r => LS.adds_snoc rs (L.add _) r

theorem secs_bounds (n : Nat) : n ≤ 48 * secs n ∧ (0 < n → 48 * secs n < n + 48) ∧ (n % 48 = 0 → n / 48 = secs n) ∧ (n % 48 ≠ 0 → n / 48 + 1 = secs n) := by
  unfold secs; omega
/-- The disk behind that one Flush. -/
def DS.once (S : DS) (at_ n : Nat) (rs : List (List UInt8)) : DS := (((LS.empty at_ n).adds rs).wrote S 0 (frames 1 rs) (secs (sizes rs))).flushed
section
variable {S : DS} {at_ n : Nat} {rs : List (List UInt8)}
theorem once_calm (hc : Calm S) : Calm (S.once at_ n rs) := (LS.wrote_calm _ _ _ hc _).flushed
theorem once_now (hc : Calm S) : (S.once at_ n rs).now = (((LS.empty at_ n).adds rs).wrote S 0 (frames 1 rs) (secs (sizes rs))).now := by
  unfold DS.once; rw [(LS.wrote_calm _ _ _ hc _).flushed_eq]
theorem once_waits (hc : Calm S) : (S.once at_ n rs).waits = [] := by
  unfold DS.once; rw [(LS.wrote_calm _ _ _ hc _).flushed_eq]
theorem once_length (hc : Calm S) : (S.once at_ n rs).now.length = S.now.length := by rw [once_now hc, LS.wrote_length]
theorem place_eq {L L' : LS} (h1 : L.start = L'.start) (h2 : L.n = L'.n) (x : Nat) : L.place x = L'.place x := by unfold LS.place; rw [h1, h2]
theorem once_other (hc : Calm S) (x : Nat) (hx : ∀ i, i < secs (sizes rs) → x ≠ (LS.empty at_ n).place i) : (S.once at_ n rs).now.getD x [] = S.now.getD x [] := by
  rw [once_now hc]
  refine LS.wrote_other _ _ _ hc _ _ (fun i hi => ?_)
  have hk := LS.adds_kept rs (LS.empty at_ n)
  rw [Nat.zero_add, place_eq hk.1 hk.2.1]
  exact hx i hi
theorem once_at (hc : Calm S) (h16 : 16 ≤ n) (hat : at_ + n ≤ S.now.length) (hm : secs (sizes rs) ≤ n - 2) (i : Nat) (hi : i < secs (sizes rs)) : (S.once at_ n rs).now.getD ((LS.empty at_ n).place i) [] = sectB i 1 (((frames 1 rs).drop (48 * i)).take 48) := by
  have hk := LS.adds_kept rs (LS.empty at_ n)
  have := LS.wrote_at ((LS.empty at_ n).adds rs) 0 (frames 1 rs) hc (fun x => LS.place_lt (by rw [hk.2.1]; exact h16) (by rw [hk.1, hk.2.1]; exact hat) x) (secs (sizes rs)) (by rw [hk.2.1]; exact hm) i hi
  rw [once_now hc]
  rw [Nat.zero_add, place_eq hk.1 hk.2.1, hk.2.2.2.2.1] at this
  exact this
theorem once_head (hc : Calm S) (hb : Bare S) : LS.opHead at_ n (S.once at_ n rs) = { LS.fresh at_ n with next := 1, room := 48 * ((n : Int) - 8) } := by
  have ho : ∀ x, x < at_ + 2 → (S.once at_ n rs).now.getD x [] = S.now.getD x [] := fun x hx => once_other hc x (fun i _ e => by
    have : (LS.empty at_ n).place i = at_ + 2 + i % (n - 2) := rfl
    omega)
  unfold LS.opHead LS.readHead
  rw [if_neg (by rw [(once_calm hc).dead]; decide)]
  simp only [LS.heads]
  rw [show (LS.fresh at_ n).start = at_ from rfl, ho (at_ + 0) (by omega), hb.head]
  rw [ho (at_ + 1) (by omega), hb.head]
  rfl
theorem once_sects (hc : Calm S) (hb : Bare S) (h16 : 16 ≤ n) (hmost : n ≤ 32768) (hat : at_ + n ≤ S.now.length) (hroom : sizes rs ≤ 48 * (n - 8)) {L : LS} (h1 : L.start = at_) (h2 : L.n = n) :
    Sects (S.once at_ n rs) L 0 (frames 1 rs) (secs (sizes rs)) (fun _ => 1) := by
  obtain ⟨b1, b2, b3, b4⟩ := secs_bounds (sizes rs)
  have hm : secs (sizes rs) ≤ n - 8 := by unfold secs; omega
  have hp : ∀ x, L.place x = (LS.empty at_ n).place x := place_eq h1 h2
  refine ⟨fun i hi => ?_, by rw [frames_length]; exact b1, fun h => ?_, fun _ _ _ _ => Nat.le_refl _, fun _ _ => by omega, by omega, by rw [h2]; omega, fun _ hlt hg => ?_⟩
  · rw [hp, Nat.zero_add]
    exact once_at hc h16 hat (by omega) i hi
  · rw [frames_length]
    exact b2 (by unfold secs at h; omega)
  · rw [hp, Nat.zero_add, once_other hc _ (fun i hi => (LS.place_inj _ hi (by rw [h2] at hlt; show _ < i + (n - 2); omega)).symm), hb.good] at hg
    cases hg.1
/-- What Open finds there. -/
theorem once_opened (hc : Calm S) (hb : Bare S) (h16 : 16 ≤ n) (hmost : n ≤ 32768) (hat : at_ + n ≤ S.now.length) (hroom : sizes rs ≤ 48 * (n - 8)) (hsm : ∀ r ∈ rs, r.length ≤ 2000) :
    ∃ life, LS.opened at_ n (S.once at_ n rs) = { (LS.adds { LS.fresh at_ n with next := 1, room := 48 * ((n : Int) - 8), life := life } rs) with life := life + 1, kept := sizes rs, flushed := rs.length } := by
  have hh := once_head (at_ := at_) (n := n) (rs := rs) hc hb
  obtain ⟨H, hH⟩ : ∃ H, LS.opHead at_ n (S.once at_ n rs) = H := ⟨_, rfl⟩
  rw [hH] at hh
  have hby : H.bytes (S.once at_ n rs) = frames 1 rs := by
    have := (once_sects (rs := rs) hc hb h16 hmost hat hroom (L := H) (by rw [hh]; rfl) (by rw [hh]; rfl)).bytes (by rw [hh]; exact Nat.zero_div 48)
    rw [this, show H.fin = 0 from by rw [hh]; rfl]
    rfl
  have hge := sizes_ge rs
  have htk := take_frames rs (H.streamed (S.once at_ n rs)) (frames 1 rs).length (by rw [frames_length]; omega) hsm (by show H.next + _ < _; rw [hh]; show 1 + rs.length < _; omega)
  rw [show (H.streamed (S.once at_ n rs)).next = 1 from by show H.next = 1; rw [hh]] at htk
  obtain ⟨life, hlife⟩ : ∃ life, (H.str (S.once at_ n rs) (H.n - 2)).ml = life := ⟨_, rfl⟩
  have hst : H.streamed (S.once at_ n rs) = { LS.fresh at_ n with next := 1, room := 48 * ((n : Int) - 8), life := life } := by
    unfold LS.streamed; rw [hlife, hh]
  refine ⟨life, ?_⟩
  unfold LS.opened LS.opTake
  rw [hH]
  dsimp only
  rw [hby, htk, hst]
  obtain ⟨k1, k2, k3, k4, k5, k6, k7, k8, k9, k10, k11⟩ := LS.adds_kept rs { LS.fresh at_ n with next := 1, room := 48 * ((n : Int) - 8), life := life }
  rw [k5, k7, k4]
  congr 1
  · show 1 + rs.length - 1 = rs.length; omega
  · show 0 + sizes rs = sizes rs; omega
theorem once_cutB (hc : Calm S) (hb : Bare S) (h16 : 16 ≤ n) (hmost : n ≤ 32768) (hat : at_ + n ≤ S.now.length) (hroom : sizes rs ≤ 48 * (n - 8)) {L : LS} (h1 : L.start = at_) (h2 : L.n = n) (hf : L.fin = sizes rs) :
    L.cutB (S.once at_ n rs) = none := by
  obtain ⟨b1, b2, b3, b4⟩ := secs_bounds (sizes rs)
  have hm : secs (sizes rs) ≤ n - 8 := by unfold secs; omega
  have hp : ∀ x, L.place x = (LS.empty at_ n).place x := place_eq h1 h2
  unfold LS.cutB
  dsimp only
  rw [hf, hp]
  by_cases h0 : sizes rs % 48 = 0
  · rw [b3 h0, once_other hc _ (fun i hi => (LS.place_inj _ hi (by show _ < i + (n - 2); omega)).symm), if_neg (by rw [hb.good]; rintro ⟨h, _⟩; cases h)]
  · have b4' := b4 h0
    rw [once_at hc h16 hat (by omega) _ (by omega)]
    have hl : (((frames 1 rs).drop (48 * (sizes rs / 48))).take 48).length = sizes rs % 48 := by
      rw [List.length_take, List.length_drop, frames_length]; omega
    rw [if_neg]
    rintro ⟨_, _, h⟩
    rw [sectB_n _ _ _ (by rw [hl]; omega), hl] at h
    omega
end
end Go.Proofs.Ytieiopeblleheaa
