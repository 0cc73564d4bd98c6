/-
  CrFile, CrLog, in one text.
-/
import Derived.Test.YtccmmnacejdeoaaGreatDoorMg30
import Derived.Test.YtccmmnacejdeoaaGreatDoorMg15
import Derived.Test.YtccmmnacejdeoaaGreatDoorMg13
import Derived.Test.YtccmmnacejdeoaaGreatDoorMg16
/-
  What a crash leaves of a file in whose Write the disk died, wherever it died, whatever is kept: behind Open each page is there, and none has a greater LSN than those that were there and those that were written (plain).
-/
namespace Go.Proofs.YtccmmnacejdeoaaGreatDoor
set_option linter.unusedSimpArgs false
set_option linter.unusedVariables false
open Go.RowKit

/-- Open puts the file right, and no page has a greater LSN than K. -/
structure FileS (now : List (List UInt8)) (K : Nat) : Prop where
  s64 : ∀ (j : Nat) s, now[j]? = some s → s.length = 64
  len : 144 ≤ now.length
  fin : ∃ (hb : List UInt8) (c : Nat → Option PgV), now[64]? = some hb ∧ ∀ no, no < 8 → secN (layNow now 0 (lfRes now 64 8 hb) (lfRes now 64 8 hb).length) (8 * no) 8 = curB (c no) ∧ ∀ x, c no = some x → x.Ok ∧ x.no = no ∧ x.lsn ≤ K
/-- What the spare places hold. -/
def Plc (now : List (List UInt8)) (T K : Nat) : Prop := ∀ j, j < 8 → ∃ q, secN now (65 + 8 * j) 8 = plcB q ∧ ∀ x, q = some x → x.1.Ok ∧ x.2 ≤ T ∧ x.1.lsn ≤ K ∧ ∃ n, x.1.d = dataB n
/-- A page that is written here. -/
structure PgK (x : PgV) (K : Nat) : Prop where
  ok : x.Ok
  no : x.no < 8
  lsn : x.lsn ≤ K
  kind : ∃ n, x.d = dataB n

theorem curW_cases (cur : Nat → Option PgV) (l : List PgV) (no : Nat) (x : PgV) : ∀ k, curW cur l k no = some x → cur no = some x ∨ (x ∈ l ∧ x.no = no)
  | 0, h => .inl h
  | k + 1, h => by
    unfold curW at h
    cases hy : l[k]? with
    | none => rw [hy] at h; exact curW_cases cur l no x k h
    | some y =>
      rw [hy] at h
      dsimp only at h
      split at h
      · rename_i e
        injection h with h
        subst h
        exact .inr ⟨List.mem_of_getElem? hy, e.symm⟩
      · exact curW_cases cur l no x k h
theorem layNow_page2 {now : List (List UInt8)} {at0 pages : Nat} {l : List PgV} {cur : Nat → Option PgV} (hok : ∀ x ∈ l, x.Ok ∧ x.no < pages) (hlen : at0 + 8 * pages ≤ now.length) (no : Nat) (hno : no < pages) : ∀ k, (∃ i x, i < k ∧ l[i]? = some x ∧ x.no = no) → secN (layNow now at0 l k) (at0 + 8 * no) 8 = curB (curW cur l k no)
  | 0, h => by obtain ⟨i, x, hi, _⟩ := h; omega
  | k + 1, h => by
    have ih := layNow_page2 (cur := cur) hok hlen no hno k
    unfold layNow curW
    cases hx : l[k]? with
    | none =>
      obtain ⟨i, x, hi, h1, h2⟩ := h
      refine ih ⟨i, x, ?_, h1, h2⟩
      rcases Nat.lt_or_ge i k with h | h
      · exact h
      · obtain rfl : i = k := by omega
        rw [hx] at h1; cases h1
    | some x =>
      have hxo := hok x (List.mem_of_getElem? hx)
      dsimp only
      by_cases e : no = x.no
      · rw [if_pos e, ← e]
        exact secN_wr _ _ _ 8 (by rw [layNow_length]; omega) (imgB_length x 0 hxo.1.d)
      · rw [if_neg e, secN_wr_other _ _ _ _ _ _ (by omega)]
        obtain ⟨i, y, hi, h1, h2⟩ := h
        refine ih ⟨i, y, ?_, h1, h2⟩
        rcases Nat.lt_or_ge i k with h | h
        · exact h
        · obtain rfl : i = k := by omega
          rw [hx] at h1
          injection h1 with h1
          subst h1
          exact absurd h2.symm e
theorem curW_notin {cur : Nat → Option PgV} {l : List PgV} {no : Nat} (h : ∀ x ∈ l, x.no ≠ no) : ∀ k, curW cur l k no = cur no
  | 0 => rfl
  | k + 1 => by
    unfold curW
    cases hy : l[k]? with
    | none => exact curW_notin h k
    | some y =>
      dsimp only
      rw [if_neg (fun e => h y (List.mem_of_getElem? hy) e.symm)]
      exact curW_notin h k
theorem layNow_not {now : List (List UInt8)} {at0 : Nat} {l : List PgV} {no : Nat} (h : ∀ x ∈ l, x.no ≠ no) : ∀ k, secN (layNow now at0 l k) (at0 + 8 * no) 8 = secN now (at0 + 8 * no) 8
  | 0 => rfl
  | k + 1 => by
    unfold layNow
    cases hx : l[k]? with
    | none => exact layNow_not h k
    | some x =>
      dsimp only
      have := h x (List.mem_of_getElem? hx)
      rw [secN_wr_other _ _ _ _ _ _ (by omega)]
      exact layNow_not h k
theorem wrs_plc (sp t : Nat) (l : List PgV) : ∀ (n : Nat) (y : Nat × List UInt8), y ∈ wrs (plcOps sp t l n) → ∃ i x s, l[i]? = some x ∧ i < n ∧ s < 8 ∧ y = (sp + 1 + 8 * i + s, secL (imgB x t) s)
  | 0, y, h => by simp [plcOps, wrs] at h
  | n + 1, y, h => by
    cases hx : l[n]? with
    | none =>
      rw [plcOps_none hx] at h
      obtain ⟨i, x, s, h1, h2, h3⟩ := wrs_plc sp t l n y h
      exact ⟨i, x, s, h1, by omega, h3⟩
    | some x =>
      rw [plcOps_some hx, wrs_append, List.mem_append] at h
      rcases h with h | h
      · obtain ⟨i, x, s, h1, h2, h3⟩ := wrs_plc sp t l n y h
        exact ⟨i, x, s, h1, by omega, h3⟩
      · obtain ⟨s, h1, h2⟩ := wrs_sec _ _ _ _ h
        exact ⟨n, x, s, hx, by omega, h1, h2⟩
theorem wrs_lay (at0 : Nat) (l : List PgV) : ∀ (n : Nat) (y : Nat × List UInt8), y ∈ wrs (layOps at0 l n) → ∃ x s, x ∈ l ∧ s < 8 ∧ y = (at0 + 8 * x.no + s, secL (imgB x 0) s)
  | 0, y, h => by simp [layOps, wrs] at h
  | n + 1, y, h => by
    cases hx : l[n]? with
    | none =>
      rw [layOps_none hx] at h
      exact wrs_lay at0 l n y h
    | some x =>
      rw [layOps_some hx, wrs_append, List.mem_append] at h
      rcases h with h | h
      · exact wrs_lay at0 l n y h
      · obtain ⟨s, h1, h2⟩ := wrs_sec _ _ _ _ h
        exact ⟨x, s, List.mem_of_getElem? hx, h1, h2⟩
theorem secL_length {b : List UInt8} (h : b.length = 512) (t : Nat) (ht : t < 8) : (secL b t).length = 64 := by
  unfold secL; rw [List.length_take, List.length_drop, h]; omega
theorem secL_zeros (t : Nat) (ht : t < 8) : secL (zeros 512) t = zeros 64 := by
  unfold secL zeros
  rw [List.drop_replicate, List.take_replicate]
  congr 1
  omega
theorem dataB_zero : dataB 0 = zeros 480 := by
  unfold dataB
  refine List.ext_getElem? (fun i => ?_)
  unfold zeros
  rw [List.getElem?_map, List.getElem?_replicate]
  by_cases hi : i < 480
  · rw [List.getElem?_range hi, if_pos hi]
    unfold dataAt
    simp
  · rw [List.getElem?_eq_none (by rw [List.length_range]; omega), if_neg hi]; rfl
theorem secL_img0 {x : PgV} {k t : Nat} (hx : x.d = dataB 0) (h1 : 1 ≤ t) (ht : t < 8) : secL (imgB x k) t = zeros 64 := by
  rw [img_sec (by rw [hx, dataB_length]) h1, hx, dataB_zero]
  unfold zeros
  rw [List.drop_replicate, List.take_replicate]
  congr 1
  omega
theorem pgOk_first {Z : List UInt8} (h : pgOk Z = true) : Z.getD 0 0 = 84 := by
  unfold pgOk at h
  rw [Bool.and_eq_true] at h
  exact eq_of_beq h.1
theorem secL_first {Z : List UInt8} (h : secL Z 0 = zeros 64) : Z.getD 0 0 = 0 := by
  have := congrArg (fun l => l[0]?) h
  unfold secL zeros at this
  rw [Nat.mul_zero, List.drop_zero, List.getElem?_take, if_pos (by omega), List.getElem?_replicate, if_pos (by omega)] at this
  rw [List.getD_eq_getElem?_getD, this]; rfl
theorem place_casesK {P Q : PgV} {n m t u : Nat} {Z : List UInt8} (hP : P.d = dataB n) (hQ : Q.d = dataB m) (hZ : Z.length = 512)
    (hj : ∀ j, j < 8 → secL Z j = secL (imgB P t) j ∨ secL Z j = secL (imgB Q u) j) (hok : pgOk Z = true) : Z = imgB P t ∨ Z = imgB Q u := by
  rcases hj 0 (by omega) with h0 | h0
  · exact .inl (mix hP hQ (ind_any n m) hZ h0 (fun j _ h8 => hj j h8) hok)
  · exact .inr (mix hQ hP (ind_any m n) hZ h0 (fun j _ h8 => (hj j h8).symm) hok)
/-- A place with an old image or none, of which some sectors were written, and which is whole. -/
theorem place_mix {q : Option (PgV × Nat)} {X : PgV} {t K : Nat} {Z : List UInt8} (hq : ∀ x, q = some x → x.1.Ok ∧ x.1.lsn ≤ K ∧ ∃ n, x.1.d = dataB n) (hX : PgK X K) (hZ : Z.length = 512)
    (hj : ∀ j, j < 8 → secL Z j = secL (plcB q) j ∨ secL Z j = secL (imgB X t) j) (hok : pgOk Z = true) : ∃ x u, Z = imgB x u ∧ x.Ok ∧ x.lsn ≤ K := by
  obtain ⟨m, hm⟩ := hX.kind
  cases q with
  | none =>
    have h0 : secL Z 0 = secL (imgB X t) 0 := by
      rcases hj 0 (by omega) with h | h
      · exfalso
        rw [show plcB none = zeros 512 from rfl, secL_zeros 0 (by omega)] at h
        have h1 := secL_first h
        rw [pgOk_first hok] at h1
        exact absurd h1 (by decide)
      · exact h
    refine ⟨X, t, ?_, hX.ok, hX.lsn⟩
    refine mix (Q := ⟨0, 0, dataB 0⟩) (u := 0) hm rfl (ind_any m 0) hZ h0 (fun j h1 h8 => ?_) hok
    rcases hj j h8 with h | h
    · right
      rw [h, secL_img0 rfl h1 h8]
      exact secL_zeros j h8
    · exact .inl h
  | some x =>
    obtain ⟨h1, h2, n, h3⟩ := hq x rfl
    rcases place_casesK (Z := Z) (t := x.2) (u := t) h3 hm hZ hj hok with h | h
    · exact ⟨_, _, h, h1, h2⟩
    · exact ⟨_, _, h, hX.ok, hX.lsn⟩
section
variable {now1 : List (List UInt8)} {T K : Nat} {lot l : List PgV} {cur : Nat → Option PgV}
set_option maxHeartbeats 3200000 in
/-- What the disk holds when it died ahead of the first flush. -/
theorem file_before (hps : PSt now1 0 8 T lot cur) (hpl : Plc now1 T K) (hcl : ∀ no x, no < 8 → cur no = some x → x.lsn ≤ K) (hl : ∀ x ∈ l, PgK x K) (h8 : l.length ≤ 8) {ys : List (Nat × List UInt8)}
    (hys : ∀ y ∈ ys, y ∈ wrs (plcOps 64 (T + 1) l l.length ++ secOps 64 (lotB (T + 1) l.length) 1)) : FileS (setAll now1 ys) K := by
  have hlen := hps.len
  obtain ⟨cr, hcr⟩ : ∃ cr, setAll now1 ys = cr := ⟨_, rfl⟩
  have hy : ∀ y ∈ ys, (∃ i x s, l[i]? = some x ∧ s < 8 ∧ y = (65 + 8 * i + s, secL (imgB x (T + 1)) s)) ∨ y = (64, lotB (T + 1) l.length) := by
    intro y hy
    have := hys y hy
    rw [wrs_append, List.mem_append] at this
    rcases this with h | h
    · obtain ⟨i, x, s, h1, _, h2, h3⟩ := wrs_plc _ _ _ _ _ h
      exact .inl ⟨i, x, s, h1, h2, h3⟩
    · obtain ⟨t, ht, e⟩ := wrs_sec _ _ _ _ h
      obtain rfl : t = 0 := by omega
      right
      rw [e]
      unfold secL
      rw [Nat.mul_zero, List.drop_zero, List.take_of_length_le (by rw [lotB_length]; omega)]
  have hlen3 : cr.length = now1.length := by rw [← hcr, setAll_length]
  have hat : ∀ j, cr[j]? = now1[j]? ∨ ∃ y ∈ ys, y.1 = j ∧ cr[j]? = some y.2 := fun j => by rw [← hcr]; exact setAll_at ys now1 j
  have hxl : ∀ (i : Nat) x, l[i]? = some x → i < 8 ∧ PgK x K ∧ (imgB x (T + 1)).length = 512 := fun i x hx => by
    have h1 := (List.getElem?_eq_some_iff.1 hx).1
    have h2 := hl x (List.mem_of_getElem? hx)
    exact ⟨by omega, h2, imgB_length x _ h2.ok.d⟩
  have h64 : ∀ (j : Nat) s, cr[j]? = some s → s.length = 64 := by
    intro j s hs
    rcases hat j with h | ⟨y, hyy, _, h⟩
    · rw [h] at hs; exact hps.s64 j s hs
    · rw [h] at hs
      injection hs with hs
      subst hs
      rcases hy y hyy with ⟨i, x, t, h1, h2, rfl⟩ | rfl
      · exact secL_length (hxl i x h1).2.2 t h2
      · exact lotB_length _ _
  have hother : ∀ j, (j < 64 ∨ 129 ≤ j) → cr[j]? = now1[j]? := by
    intro j hj
    rcases hat j with h | ⟨y, hyy, hyj, _⟩
    · exact h
    · exfalso
      rcases hy y hyy with ⟨i, x, t, h1, h2, rfl⟩ | rfl
      · have := (hxl i x h1).1; dsimp only at hyj; omega
      · dsimp only at hyj; omega
  have hplace : ∀ i, i < 8 → pgOk (lfB cr 64 i) = true → ∃ x u, lfB cr 64 i = imgB x u ∧ x.Ok ∧ x.lsn ≤ K := by
    intro i hi hok
    obtain ⟨q, q1, q2⟩ := hpl i hi
    have hZ : (lfB cr 64 i).length = 512 := secN_length h64 _ 8 (by omega)
    have hsec : ∀ j, j < 8 → secL (lfB cr 64 i) j = secL (plcB q) j ∨ ∃ x, l[i]? = some x ∧ secL (lfB cr 64 i) j = secL (imgB x (T + 1)) j := by
      intro j hj
      have e1 := secL_sec h64 (65 + 8 * i) 8 (by omega) j hj
      have e2 := secL_sec hps.s64 (65 + 8 * i) 8 (by omega) j hj
      rw [q1] at e2
      show secL (secN cr (65 + 8 * i) 8) j = _ ∨ ∃ x, _ ∧ secL (secN cr (65 + 8 * i) 8) j = _
      rcases hat (65 + 8 * i + j) with h | ⟨y, hyy, hyj, h⟩
      · left; rw [h, e2] at e1; injection e1 with e1; exact e1.symm
      · right
        rw [h] at e1
        injection e1 with e1
        rw [← e1]
        rcases hy y hyy with ⟨i2, x, t, h1, h2, rfl⟩ | rfl
        · dsimp only at hyj
          obtain ⟨rfl, rfl⟩ : i2 = i ∧ t = j := by omega
          exact ⟨x, h1, rfl⟩
        · dsimp only at hyj; omega
    cases hx : l[i]? with
    | some X =>
      exact place_mix (q := q) (fun x hx => ⟨(q2 x hx).1, (q2 x hx).2.2.1, (q2 x hx).2.2.2⟩) (hxl i X hx).2.1 hZ (fun j hj => by
        rcases hsec j hj with h | ⟨x, h1, h2⟩
        · exact .inl h
        · rw [hx] at h1; injection h1 with h1; subst h1; exact .inr h2) hok
    | none =>
      have hall : lfB cr 64 i = plcB q := by
        have hq5 : (plcB q).length = 512 := by rw [← q1]; exact secN_length hps.s64 _ 8 (by omega)
        refine bytes_of_secs hZ hq5 (fun j hj => ?_)
        rcases hsec j hj with h | ⟨x, h1, _⟩
        · exact h
        · rw [hx] at h1; cases h1
      rw [hall] at hok ⊢
      cases q with
      | none => rw [show plcB none = zeros 512 from rfl, zeros_notok] at hok; cases hok
      | some x => exact ⟨x.1, x.2, rfl, (q2 x rfl).1, (q2 x rfl).2.2.1⟩
  obtain ⟨hb, hhb⟩ : ∃ hb, cr[64]? = some hb := ⟨_, List.getElem?_eq_getElem (by omega)⟩
  obtain ⟨hr8, hrok⟩ := lfRes_ok (h := hb) (pages := 8) (at0 := 0) h64 (by omega) (by omega)
  have hres : ∀ x ∈ lfRes cr 64 8 hb, x.lsn ≤ K := by
    intro x hx
    unfold lfRes at hx
    split at hx
    · rename_i hw
      have h8 : lfN hb ≤ 8 := by
        have := lfWh_w0 8 hw
        unfold lfW0 at this
        simp only [Bool.and_eq_true, decide_eq_true_eq] at this
        exact this.1
      unfold lfL at hx
      obtain ⟨i, hi, rfl⟩ := List.mem_map.1 hx
      rw [List.mem_range] at hi
      obtain ⟨h1, _, _⟩ := lfWh_each 8 hw i (by omega) hi
      obtain ⟨x, u, e, k1, k2⟩ := hplace i (by omega) h1
      rw [e, img_x _ _ k1]
      exact k2
    · simp at hx
  rw [hcr]
  refine ⟨h64, by omega, hb, curW cur (lfRes cr 64 8 hb) (lfRes cr 64 8 hb).length, hhb, fun no hno => ⟨?_, fun x hx => ?_⟩⟩
  · have h0 : secN cr (0 + 8 * no) 8 = curB (cur no) := by
      rw [secN_congr (b := now1) (0 + 8 * no) 8 (fun k hk => hother _ (.inl (by omega)))]
      exact hps.page no hno
    have := layNow_page (now := cr) (at0 := 0) (pages := 8) (l := lfRes cr 64 8 hb) hrok (by omega) no hno h0 (lfRes cr 64 8 hb).length
    rwa [Nat.zero_add] at this
  · have hk := curW_cok (cur := cur) (l := lfRes cr 64 8 hb) (pages := 8) (fun x hx => (hrok x hx).1) hps.cok _ no x hno hx
    refine ⟨hk.1, hk.2, ?_⟩
    rcases curW_cases _ _ _ _ _ hx with h | h
    · exact hcl no x hno h
    · exact hres x h.1
set_option maxHeartbeats 3200000 in
/-- .. and behind it. -/
theorem file_behind (hps : PSt now1 0 8 T lot cur) (hcl : ∀ no x, no < 8 → cur no = some x → x.lsn ≤ K) (hl : ∀ x ∈ l, PgK x K) (h0 : l ≠ []) (h8 : l.length ≤ 8) (hT : T + 1 < 4611686018427387904) {ys : List (Nat × List UInt8)}
    (hys : ∀ y ∈ ys, y ∈ wrs (layOps 0 l l.length)) : FileS (setAll (wrNow (plcNow now1 64 (T + 1) l l.length) 64 (lotB (T + 1) l.length) 1) ys) K := by
  have hlen := hps.len
  have hok1 : ∀ x ∈ l, x.Ok := fun x hx => (hl x hx).ok
  obtain ⟨nw, hnw⟩ : ∃ nw, wrNow (plcNow now1 64 (T + 1) l l.length) 64 (lotB (T + 1) l.length) 1 = nw := ⟨_, rfl⟩
  have hpll : (plcNow now1 64 (T + 1) l l.length).length = now1.length := plcNow_length _
  have hlenw : nw.length = now1.length := by rw [← hnw, wrNow_length, hpll]
  have h64w : ∀ (j : Nat) s, nw[j]? = some s → s.length = 64 := by
    rw [← hnw]
    exact wrNow_64 (plcNow_64 hps.s64 hok1 _) (by rw [lotB_length]) 1 (Nat.le_refl _)
  have wh : nw[64]? = some (lotB (T + 1) l.length) := by
    rw [← hnw]
    have := wrNow_at (plcNow now1 64 (T + 1) l l.length) 64 (lotB (T + 1) l.length) 0 1 (by omega) (by rw [hpll]; omega)
    refine Eq.trans this ?_
    rw [Nat.mul_zero, List.drop_zero, List.take_of_length_le (by rw [lotB_length]; omega)]
  have wp : ∀ (i : Nat) x, l[i]? = some x → secN nw (65 + 8 * i) 8 = imgB x (T + 1) := by
    intro i x hx
    have hi := (List.getElem?_eq_some_iff.1 hx).1
    rw [← hnw, secN_wr_other _ _ _ _ _ _ (by omega)]
    have := plcNow_place (now := now1) (sp := 64) (t := T + 1) (l := l) hok1 (by omega) h8 i (by omega) l.length (Nat.le_refl _)
    rw [if_pos hi, hx] at this
    exact this
  have wpage : ∀ no, no < 8 → secN nw (8 * no) 8 = curB (cur no) := fun no hno => by
    rw [← hnw, secN_wr_other _ _ _ _ _ _ (by omega)]
    have h1 := hps.page no hno
    rw [Nat.zero_add] at h1
    rw [← h1]
    exact secN_congr _ _ (fun k hk => plcNow_other _ (by omega) _)
  rw [hnw]
  obtain ⟨cr, hcr⟩ : ∃ cr, setAll nw ys = cr := ⟨_, rfl⟩
  have hy : ∀ y ∈ ys, ∃ x s, x ∈ l ∧ s < 8 ∧ y = (8 * x.no + s, secL (imgB x 0) s) := by
    intro y hy
    obtain ⟨x, s, h1, h2, h3⟩ := wrs_lay _ _ _ _ (hys y hy)
    exact ⟨x, s, h1, h2, by rw [h3, Nat.zero_add]⟩
  have hlen3 : cr.length = now1.length := by rw [← hcr, setAll_length, hlenw]
  have hat : ∀ j, cr[j]? = nw[j]? ∨ ∃ y ∈ ys, y.1 = j ∧ cr[j]? = some y.2 := fun j => by rw [← hcr]; exact setAll_at ys nw j
  have h64 : ∀ (j : Nat) s, cr[j]? = some s → s.length = 64 := by
    intro j s hs
    rcases hat j with h | ⟨y, hyy, _, h⟩
    · rw [h] at hs; exact h64w j s hs
    · rw [h] at hs
      injection hs with hs
      subst hs
      obtain ⟨x, t, h1, h2, rfl⟩ := hy y hyy
      exact secL_length (imgB_length x 0 (hok1 x h1).d) t h2
  have hother : ∀ j, (∀ x ∈ l, ¬ (8 * x.no ≤ j ∧ j < 8 * x.no + 8)) → cr[j]? = nw[j]? := by
    intro j hj
    rcases hat j with h | ⟨y, hyy, hyj, _⟩
    · exact h
    · exfalso
      obtain ⟨x, t, h1, h2, rfl⟩ := hy y hyy
      dsimp only at hyj
      exact hj x h1 (by omega)
  have hhi : ∀ j, 64 ≤ j → cr[j]? = nw[j]? := fun j hj => hother j (fun x hx e => by have := (hl x hx).no; omega)
  have hh : cr[64]? = some (lotB (T + 1) l.length) := by rw [hhi 64 (by omega)]; exact wh
  have hz : ∀ (i : Nat) x, l[i]? = some x → lfB cr 64 i = imgB x (T + 1) := by
    intro i x hx
    have hi := (List.getElem?_eq_some_iff.1 hx).1
    rw [← wp i x hx]
    exact secN_congr _ 8 (fun k hk => hhi _ (by omega))
  have eN : lfN (lotB (T + 1) l.length) = l.length := lot_n _ _ (by omega)
  have eT : lfT (lotB (T + 1) l.length) = T + 1 := lot_turn _ _ (by omega)
  have e3 : lfW0 (lotB (T + 1) l.length) = true := by unfold lfW0; rw [eT, eN, decide_eq_true h8]; simp
  have hwh : ∀ k, lfWh cr 64 8 (lotB (T + 1) l.length) k = true := by
    intro k
    induction k with
    | zero => exact e3
    | succ k ih =>
      unfold lfWh
      rw [eN, ih]
      split
      · rename_i hk2
        have hx := List.getElem?_eq_getElem hk2
        have hp := hl _ (List.mem_of_getElem? hx)
        rw [hz k _ hx, img_ok _ _ hp.ok (by omega), img_turn _ _ hp.ok.d (by omega), img_x _ _ hp.ok, eT]
        have := hp.no
        simp [this]
      · rfl
  have er : lfRes cr 64 8 (lotB (T + 1) l.length) = l := by
    unfold lfRes
    rw [if_pos (hwh 8), eN]
    refine List.ext_getElem? (fun j => ?_)
    unfold lfL
    rw [List.getElem?_map]
    by_cases hj : j < l.length
    · rw [List.getElem?_range hj, List.getElem?_eq_getElem hj, Option.map_some, hz j _ (List.getElem?_eq_getElem hj), img_x _ _ (hok1 _ (List.getElem_mem hj))]
    · rw [List.getElem?_eq_none (by rw [List.length_range]; omega), List.getElem?_eq_none (by omega)]; rfl
  rw [hcr]
  refine ⟨h64, by omega, _, curW cur l l.length, hh, fun no hno => ?_⟩
  rw [er]
  refine ⟨?_, fun x hx => ?_⟩
  · by_cases hin : ∃ i x, i < l.length ∧ l[i]? = some x ∧ x.no = no
    · have := layNow_page2 (now := cr) (at0 := 0) (pages := 8) (l := l) (cur := cur) (fun x hx => ⟨hok1 x hx, (hl x hx).no⟩) (by omega) no hno l.length hin
      rwa [Nat.zero_add] at this
    · have hn : ∀ x ∈ l, x.no ≠ no := fun x hx e => by
        obtain ⟨i, hi⟩ := List.mem_iff_getElem?.1 hx
        exact hin ⟨i, x, (List.getElem?_eq_some_iff.1 hi).1, hi, e⟩
      have h1 := layNow_not (now := cr) (at0 := 0) (l := l) (no := no) hn l.length
      rw [Nat.zero_add] at h1
      rw [h1, curW_notin hn, ← wpage no hno]
      exact secN_congr _ 8 (fun k hk => hother _ (fun x hx e => hn x hx (by omega)))
  · have hk := curW_cok (cur := cur) (l := l) (pages := 8) hok1 hps.cok _ no x hno hx
    refine ⟨hk.1, hk.2, ?_⟩
    rcases curW_cases _ _ _ _ _ hx with h | h
    · exact hcl no x hno h
    · exact (hl x h.1).lsn
end
/-- A file that nothing waits for. -/
theorem FileS.of {now1 : List (List UInt8)} {T K : Nat} {lot : List PgV} {cur : Nat → Option PgV} (hps : PSt now1 0 8 T lot cur) (hcl : ∀ no x, no < 8 → cur no = some x → x.lsn ≤ K) : FileS now1 K := by
  obtain ⟨hb, h1, h2, _⟩ := hps.left
  have hlen := hps.len
  refine ⟨hps.s64, by omega, hb, cur, h1, fun no hno => ⟨?_, fun x hx => ?_⟩⟩
  · rw [show lfRes now1 64 8 hb = lot from h2, hps.laid]
    have := hps.page no hno
    rwa [Nat.zero_add] at this
  · have := hps.cok no x hno hx
    exact ⟨this.1, this.2, hcl no x hno hx⟩
/-- It does not know of the sectors beside it. -/
theorem FileS.agree {a b : List (List UInt8)} {K : Nat} (h : FileS a K) (h64 : ∀ (j : Nat) s, b[j]? = some s → s.length = 64) (hl : b.length = a.length) (hj : ∀ j, j < 144 → b[j]? = a[j]?) : FileS b K := by
  obtain ⟨hb, c, h1, h2⟩ := h.fin
  have hres : lfRes b 64 8 hb = lfRes a 64 8 hb := by
    have hB : ∀ i, i < 8 → lfB b 64 i = lfB a 64 i := fun i hi => secN_congr _ 8 (fun k hk => hj _ (by omega))
    have hW : ∀ k, k ≤ 8 → lfWh b 64 8 hb k = lfWh a 64 8 hb k := by
      intro k
      induction k with
      | zero => intro _; rfl
      | succ k ih =>
        intro hk
        unfold lfWh
        rw [ih (by omega), hB k (by omega)]
    unfold lfRes
    rw [hW 8 (Nat.le_refl _)]
    split
    · rename_i hw
      have h8 : lfN hb ≤ 8 := by
        have := lfWh_w0 8 hw
        unfold lfW0 at this
        simp only [Bool.and_eq_true, decide_eq_true_eq] at this
        exact this.1
      unfold lfL
      refine List.map_congr_left (fun i hi => ?_)
      rw [List.mem_range] at hi
      rw [hB i (by omega)]
    · rfl
  have hlen := h.len
  obtain ⟨_, hrok⟩ := lfRes_ok (now := a) (h := hb) (pages := 8) (at0 := 0) h.s64 (by omega) (by omega)
  have hlay : ∀ (l : List PgV), (∀ x ∈ l, x.no < 8) → ∀ k, ∀ j, j < 64 → (layNow b 0 l k)[j]? = (layNow a 0 l k)[j]? := by
    intro l hl8 k
    induction k with
    | zero => intro j hj2; exact hj j (by omega)
    | succ k ih =>
      intro j hj2
      unfold layNow
      cases hx : l[k]? with
      | none => exact ih j hj2
      | some x =>
        dsimp only
        have hwr : ∀ (n : Nat) (u v : List (List UInt8)), u.length = v.length → (∀ j, j < 64 → u[j]? = v[j]?) → ∀ (bs : List UInt8) (i j : Nat), j < 64 → (wrNow u i bs n)[j]? = (wrNow v i bs n)[j]? := by
          intro n
          induction n with
          | zero => intro u v _ huv bs i j hj; exact huv j hj
          | succ n ihn =>
            intro u v hul huv bs i j hj
            rw [wrNow, wrNow, List.getElem?_set, List.getElem?_set, ihn u v hul huv bs i j hj, wrNow_length, wrNow_length, hul]
        exact hwr 8 _ _ (by rw [layNow_length, layNow_length, hl]) (fun j hj => ih j hj) _ _ j hj2
  refine ⟨h64, by omega, hb, c, by rw [hj 64 (by omega)]; exact h1, fun no hno => ⟨?_, (h2 no hno).2⟩⟩
  rw [hres, ← (h2 no hno).1]
  exact secN_congr _ 8 (fun k hk => hlay _ (fun x hx => (hrok x hx).2) _ _ (by omega))
end Go.Proofs.YtccmmnacejdeoaaGreatDoor

/-
  What a crash leaves of a log in whose Flush the disk died, wherever it died, whatever is kept: behind Open there are at least the records that were flushed (plain; a log on 80 sectors from 144 on, never cut, never opened again).
-/
namespace Go.Proofs.YtccmmnacejdeoaaGreatDoor
set_option linter.unusedSimpArgs false
set_option linter.unusedVariables false
open Go.RowKit

/-- The log that is opened here has at least K records. -/
structure LogS (S : DS) (K : Nat) : Prop where
  h0 : ∀ i, i < 2 → hLsn (S.now.getD (144 + i) []) = 0
  sects : ∃ rs rest m, Sects S (LS.empty 144 80) 0 (frames 1 rs ++ rest) m (fun _ => 1) ∧ rs.length = K ∧ ∀ r ∈ rs, r.length ≤ 2000
  K1 : K ≤ 400000
theorem LogS.agree {S S' : DS} {K : Nat} (h : LogS S K) (hj : ∀ j, 144 ≤ j → j < 224 → S'.now.getD j [] = S.now.getD j []) : LogS S' K := by
  have hp : ∀ x, S'.now.getD ((LS.empty 144 80).place x) [] = S.now.getD ((LS.empty 144 80).place x) [] := fun x => by
    have h1 : (LS.empty 144 80).place x = 146 + x % 78 := rfl
    have := Nat.mod_lt x (show 0 < 78 by omega)
    rw [h1]
    exact hj _ (by omega) (by omega)
  obtain ⟨rs, rest, m, h1, h2, h3⟩ := h.sects
  refine ⟨fun i hi => by rw [hj _ (by omega) (by omega)]; exact h.h0 i hi, ⟨rs, rest, m, ?_, h2, h3⟩, h.K1⟩
  exact { h1 with
    sec := fun i hi => by rw [hp]; exact h1.sec i hi
    stop := fun a b => by rw [hp]; exact h1.stop a b }
theorem take_app : ∀ (rs : List (List UInt8)) (rest : List UInt8) (L : LS) (k : Nat), rs.length ≤ k → (∀ r ∈ rs, r.length ≤ 2000) → L.next + rs.length < 18446744073709551616 → L.take k (frames L.next rs ++ rest) = (L.adds rs).take (k - rs.length) rest
  | [], rest, L, k, _, _, _ => rfl
  | r :: rs, rest, L, k, hk, hr, hn => by
    obtain ⟨k, rfl⟩ : ∃ k', k = k' + 1 := ⟨k - 1, by simp at hk; omega⟩
    have h1 : r.length ≤ 2000 := hr r (List.mem_cons_self ..)
    simp only [List.length_cons] at hn hk
    rw [show frames L.next (r :: rs) = fraB L.next r ++ frames (L.next + 1) rs from rfl, List.append_assoc]
    simp only [LS.take, LS.adds]
    rw [if_pos (fraB_ok _ _ h1 (by omega) _), fraB_rest _ _ (by omega), fraB_rec _ _ (by omega)]
    rw [List.length_cons, show k + 1 - (rs.length + 1) = k - rs.length from by omega]
    exact take_app rs rest (L.add r) k (by omega) (fun x hx => hr x (List.mem_cons_of_mem _ hx)) (by show L.next + 1 + rs.length < _; omega)
theorem adds_next : ∀ (rs : List (List UInt8)) (L : LS), (L.adds rs).next = L.next + rs.length
  | [], L => rfl
  | r :: rs, L => by
    show ((L.add r).adds rs).next = _
    rw [adds_next rs (L.add r)]
    show L.next + 1 + rs.length = L.next + (rs.length + 1)
    omega
theorem LogS.opHead {S : DS} {K : Nat} (h : LogS S K) : LS.opHead 144 80 S = { LS.fresh 144 80 with next := 1, room := 3456 } := by
  have key : (LS.fresh 144 80).readHead S = LS.fresh 144 80 := by
    unfold LS.readHead
    split
    · rfl
    · have e : ∀ i, i < 2 → ∀ L : LS, L.head (S.now.getD (144 + i) []) = L := fun i hi L => by
        unfold LS.head
        rw [if_neg (by rw [h.h0 i hi]; omega)]
      show ((LS.fresh 144 80).head (S.now.getD (144 + 0) [])).head (S.now.getD (144 + 1) []) = _
      rw [e 0 (by omega), e 1 (by omega)]
  unfold LS.opHead
  rw [key]; rfl
theorem LogS.opened {S : DS} {K : Nat} (h : LogS S K) : K < (LS.opened 144 80 S).next ∧ (LS.opened 144 80 S).start = 144 ∧ (LS.opened 144 80 S).n = 80 := by
  obtain ⟨rs, rest, m, h1, h2, h3⟩ := h.sects
  have hK := h.K1
  obtain ⟨H, hH⟩ : ∃ H, LS.opHead 144 80 S = H := ⟨_, rfl⟩
  have hh := h.opHead
  rw [hH] at hh
  have hp : ∀ x, H.place x = (LS.empty 144 80).place x := fun x => by rw [hh]; rfl
  have hs : Sects S H 0 (frames 1 rs ++ rest) m (fun _ => 1) := {
    sec := fun i hi => by rw [hp]; exact h1.sec i hi
    long := h1.long
    short := h1.short
    mono := h1.mono
    lives := h1.lives
    nos := h1.nos
    fit := by rw [hh]; exact h1.fit
    stop := fun a b => by rw [hp]; exact h1.stop a (by rw [hh] at b; exact b) }
  have hf0 : H.fin = 0 := by rw [hh]; rfl
  have hby : H.bytes S = frames 1 rs ++ rest := by
    have := hs.bytes (by rw [hf0])
    rw [this, hf0]; rfl
  have hnx : (H.streamed S).next = 1 := by
    show H.next = 1
    rw [hh]
  have hge := sizes_ge rs
  have htk : (H.streamed S).take (frames 1 rs ++ rest).length (frames 1 rs ++ rest) = ((H.streamed S).adds rs).take ((frames 1 rs ++ rest).length - rs.length) rest := by
    have := take_app rs rest (H.streamed S) (frames 1 rs ++ rest).length (by rw [List.length_append, frames_length]; omega) h3 (by rw [hnx]; omega)
    rwa [hnx] at this
  have hop : LS.opTake 144 80 S = ((H.streamed S).adds rs).take ((frames 1 rs ++ rest).length - rs.length) rest := by
    unfold LS.opTake
    rw [hH]
    dsimp only
    rw [hby, htk]
  obtain ⟨k1, k2, k3, k4, k5, k6, k7, k8⟩ := LS.take_kept ((frames 1 rs ++ rest).length - rs.length) ((H.streamed S).adds rs) rest
  rw [adds_next, hnx] at k6
  have hadd : ∀ (rs : List (List UInt8)) (L : LS), (L.adds rs).start = L.start ∧ (L.adds rs).n = L.n := by
    intro rs
    induction rs with
    | nil => intro L; exact ⟨rfl, rfl⟩
    | cons r rs ih => intro L; exact ih (L.add r)
  unfold LS.opened
  rw [hop]
  dsimp only
  refine ⟨by omega, ?_, ?_⟩
  · rw [k1, (hadd rs _).1]
    show H.start = 144
    rw [hh]; rfl
  · rw [k2, (hadd rs _).2]
    show H.n = 80
    rw [hh]; rfl

/-- What Flush does to the disk. -/
def LS.wOps (L : LS) (no : Nat) (bs : List UInt8) : Nat → List WOp
  | 0 => []
  | j + 1 => L.wOps no bs j ++ [.wr (L.place (no + j)) (sectB (no + j) L.life ((bs.drop (48 * j)).take 48))]
theorem LS.wOps_length (L : LS) (no : Nat) (bs : List UInt8) : ∀ j, (L.wOps no bs j).length = j
  | 0 => rfl
  | j + 1 => by rw [LS.wOps, List.length_append, LS.wOps_length L no bs j]; rfl
theorem LS.wOps_split (L : LS) (no : Nat) (bs : List UInt8) (j : Nat) : ∀ n, j ≤ n → ∃ r, L.wOps no bs n = L.wOps no bs j ++ r
  | 0, h => by obtain rfl : j = 0 := by omega
               exact ⟨[], (List.append_nil _).symm⟩
  | n + 1, h => by
    by_cases e : j = n + 1
    · subst e; exact ⟨[], (List.append_nil _).symm⟩
    · obtain ⟨r, hr⟩ := LS.wOps_split L no bs j n (by omega)
      exact ⟨r ++ [.wr (L.place (no + n)) (sectB (no + n) L.life ((bs.drop (48 * n)).take 48))], by rw [LS.wOps, hr, List.append_assoc]⟩
theorem noFl_w (L : LS) (no : Nat) (bs : List UInt8) : ∀ j, noFl (L.wOps no bs j)
  | 0 => trivial
  | j + 1 => noFl_append _ _ (noFl_w L no bs j) trivial
theorem wrs_w (L : LS) (no : Nat) (bs : List UInt8) : ∀ (n : Nat) (y : Nat × List UInt8), y ∈ wrs (L.wOps no bs n) → ∃ j, j < n ∧ y = (L.place (no + j), sectB (no + j) L.life ((bs.drop (48 * j)).take 48))
  | 0, y, h => by simp [LS.wOps, wrs] at h
  | n + 1, y, h => by
    rw [LS.wOps, wrs_append, List.mem_append] at h
    rcases h with h | h
    · obtain ⟨j, h1, h2⟩ := wrs_w L no bs n y h
      exact ⟨j, by omega, h2⟩
    · simp only [wrs, List.mem_singleton] at h
      exact ⟨n, by omega, h⟩
/-- Nothing waits, and what is read is what lasts. -/
structure Quiet (S : DS) : Prop where
  waits : S.waits = []
  last : S.last = S.now
/-- A run of writes and a flush behind them: what a crash leaves. -/
theorem crash_one {S : DS} (W : List WOp) (hW : noFl W) (hq : Quiet S) (keep : List Int) : ∃ ys, (∀ y ∈ ys, y ∈ wrs W) ∧ ((runs S (W ++ [.fl])).1.crash keep).now = setAll S.now ys := by
  obtain ⟨k, k1, k2, k3⟩ := run_prefix (W ++ [.fl]) S
  obtain ⟨S', hS'⟩ : ∃ S', (runs S (W ++ [.fl])).1 = S' := ⟨_, rfl⟩
  rw [hS'] at k2 ⊢
  have hcr : (S'.crash keep).now = setAll S'.last (chosen keep S'.waits) := rfl
  have hc0 : core S = (S.now, S.now, []) := by unfold core; rw [hq.last, hq.waits]
  by_cases hk : k ≤ W.length
  · rw [List.take_append_of_le_length hk, hc0, exec_wrs _ _ _ _ (noFl_take _ _ hW), List.nil_append] at k2
    have e2 : S'.last = S.now := congrArg (fun c => c.2.1) k2
    have e3 : S'.waits = wrs (W.take k) := congrArg (fun c => c.2.2) k2
    refine ⟨chosen keep S'.waits, fun y hy => ?_, by rw [hcr, e2]⟩
    have := mem_chosen hy
    rw [e3] at this
    exact mem_wrs_take this
  · rw [List.take_of_length_le (by simp; omega), hc0, exec_append, exec_wrs _ _ _ _ hW, List.nil_append] at k2
    have e2 : S'.last = setAll S.now (wrs W) := congrArg (fun c => c.2.1) k2
    have e3 : S'.waits = [] := congrArg (fun c => c.2.2) k2
    refine ⟨wrs W, fun y hy => hy, ?_⟩
    rw [hcr, e2, e3]; rfl
/-- .. that came to its end. -/
theorem run_one {S : DS} (W : List WOp) (hW : noFl W) (hq : Quiet S) (h : (runs S (W ++ [.fl])).2 = 0) : (runs S (W ++ [.fl])).1.now = nowOps S.now W ∧ Quiet (runs S (W ++ [.fl])).1 := by
  obtain ⟨k, k1, k2, k3⟩ := run_prefix (W ++ [.fl]) S
  obtain ⟨S', hS'⟩ : ∃ S', (runs S (W ++ [.fl])).1 = S' := ⟨_, rfl⟩
  rw [hS'] at k2 ⊢
  have hk : k = (W ++ [WOp.fl]).length := by
    rcases k3 with k3 | k3
    · exact k3.1
    · rw [k3.2] at h; exact absurd h (by decide)
  have hc0 : core S = (S.now, S.now, []) := by unfold core; rw [hq.last, hq.waits]
  rw [List.take_of_length_le (by omega), hc0, exec_append, exec_wrs _ _ _ _ hW, List.nil_append] at k2
  have e1 : S'.now = nowOps S.now W := congrArg (fun c => c.1) k2
  have e2 : S'.last = setAll S.now (wrs W) := congrArg (fun c => c.2.1) k2
  have e3 : S'.waits = [] := congrArg (fun c => c.2.2) k2
  exact ⟨e1, e3, by rw [e1, e2, setAll_ops]⟩

/-- How the log stands on the disk. -/
structure LogH (S : DS) (L : LS) : Prop where
  start : L.start = 144
  n : L.n = 80
  first : L.first = 1
  life : L.life = 1
  laid : L.Laid 0
  fl : L.flushed ≤ L.rs.length
  kept : L.kept = sizes (L.rs.take L.flushed)
  nx : L.next = 1 + L.rs.length
  one : ∀ r ∈ L.rs, r.length = 1
  cnt : L.rs.length ≤ 100
  room : L.room = 3456 - (sizes L.rs : Int)
  h0 : ∀ i, i < 2 → hLsn (S.now.getD (144 + i) []) = 0
  sec : ∀ i, i < secs L.kept → S.now.getD (146 + i) [] = sectB i 1 (((frames 1 (L.rs.take L.flushed)).drop (48 * i)).take 48)
  non : ∀ i, secs L.kept ≤ i → i < 78 → pGood (S.now.getD (146 + i) []) = false
  len : 224 ≤ S.now.length
theorem sizes_one : ∀ (rs : List (List UInt8)), (∀ r ∈ rs, r.length = 1) → sizes rs = 17 * rs.length
  | [], _ => rfl
  | r :: rs, h => by
    have h1 := h r (List.mem_cons_self ..)
    have ih := sizes_one rs (fun x hx => h x (List.mem_cons_of_mem _ hx))
    simp only [sizes, List.map_cons, List.sum_cons, List.length_cons] at ih ⊢
    omega
theorem LogH.place {S : DS} {L : LS} (h : LogH S L) (i : Nat) (hi : i < 78) : L.place i = 146 + i := by
  unfold LS.place
  rw [h.start, h.n]
  show 144 + 2 + i % 78 = _
  rw [Nat.mod_eq_of_lt hi]
theorem LogH.fits {S : DS} {L : LS} (h : LogH S L) : sizes L.rs ≤ 1700 := by
  rw [sizes_one _ h.one]; have := h.cnt; omega
theorem LogH.keptLe {S : DS} {L : LS} (h : LogH S L) : L.kept ≤ sizes L.rs := by
  rw [h.kept]
  conv => rhs; rw [← List.take_append_drop L.flushed L.rs, sizes_append]
  omega
theorem LogH.fin {S : DS} {L : LS} (h : LogH S L) : L.fin = sizes L.rs := by rw [h.laid.fin, Nat.zero_add]
/-- A record more. -/
theorem LogH.add {S : DS} {L : LS} (h : LogH S L) (r : List UInt8) (hr : r.length = 1) (hc : L.rs.length < 100) : LogH S (L.add r) := by
  have e : (L.add r).rs = L.rs ++ [r] := by unfold LS.rs LS.add; simp
  have hfl := h.fl
  have et : (L.rs ++ [r]).take L.flushed = L.rs.take L.flushed := List.take_append_of_le_length hfl
  exact {
    start := h.start
    n := h.n
    first := h.first
    life := h.life
    laid := h.laid.add r
    fl := by rw [e, List.length_append]; show L.flushed ≤ _; omega
    kept := by rw [e]; show L.kept = sizes ((L.rs ++ [r]).take L.flushed); rw [et]; exact h.kept
    nx := by rw [e, List.length_append]; show L.next + 1 = 1 + (L.rs.length + 1); rw [h.nx]; omega
    one := fun x hx => by
      rw [e] at hx
      rcases List.mem_append.1 hx with hx | hx
      · exact h.one x hx
      · rw [List.mem_singleton] at hx; rw [hx]; exact hr
    cnt := by rw [e, List.length_append, List.length_singleton]; omega
    room := by
      rw [e, sizes_append]
      show L.room - (16 + r.length) = _
      rw [h.room]
      have : sizes [r] = 16 + r.length := by simp [sizes]
      rw [this]; omega
    h0 := h.h0
    sec := fun i hi => by rw [e]; show S.now.getD _ [] = sectB i 1 (((frames 1 ((L.rs ++ [r]).take L.flushed)).drop (48 * i)).take 48); rw [et]; exact h.sec i hi
    non := h.non
    len := h.len }
theorem chunk_take {B : List UInt8} {k i : Nat} (h : 48 * (i + 1) ≤ k) : ((B.take k).drop (48 * i)).take 48 = (B.drop (48 * i)).take 48 := by
  rw [List.drop_take, List.take_take, Nat.min_eq_left (by omega)]
theorem last_of (P : Nat → Prop) : ∀ M, ∃ t, t ≤ M ∧ (∀ i, i < t → P i) ∧ (t = M ∨ ¬ P t)
  | 0 => ⟨0, Nat.le_refl _, fun i hi => by omega, .inl rfl⟩
  | M + 1 => by
    obtain ⟨t, h1, h2, h3⟩ := last_of P M
    rcases h3 with h3 | h3
    · by_cases hp : P M
      · refine ⟨M + 1, Nat.le_refl _, fun i hi => ?_, .inl rfl⟩
        rcases Nat.lt_or_ge i M with h | h
        · exact h2 i (by omega)
        · rw [show i = M from by omega]; exact hp
      · exact ⟨M, by omega, fun i hi => h2 i (by omega), .inr hp⟩
    · exact ⟨t, by omega, h2, .inr h3⟩
theorem getD_get' {l m : List (List UInt8)} {j : Nat} (h : l.length = m.length) (e : l.getD j [] = m.getD j []) : l[j]? = m[j]? := by
  rw [List.getD_eq_getElem?_getD, List.getD_eq_getElem?_getD] at e
  by_cases hj : j < l.length
  · rw [List.getElem?_eq_getElem hj, List.getElem?_eq_getElem (by omega)] at e ⊢
    exact congrArg some e
  · rw [List.getElem?_eq_none (by omega), List.getElem?_eq_none (by omega)]
/-- What Flush writes here. -/
def LS.fOps (L : LS) : List WOp := L.wOps (L.from0 0 / 48) (L.wbs 0) (secs (L.wbs 0).length)
section
variable {S : DS} {L : LS}
theorem LogH.parts (h : LogH S L) : L.from0 0 / 48 = L.kept / 48 ∧ L.wbs 0 = (frames 1 L.rs).drop (48 * (L.kept / 48)) ∧ (L.wbs 0).length = sizes L.rs - 48 * (L.kept / 48) ∧ L.kept / 48 + secs (L.wbs 0).length = secs (sizes L.rs) := by
  have hk := h.keptLe
  have e0 : L.from0 0 = 48 * (L.kept / 48) := by unfold LS.from0; omega
  have e1 : L.wbs 0 = (frames 1 L.rs).drop (48 * (L.kept / 48)) := by
    unfold LS.wbs LS.tail
    rw [e0, h.first, show 48 * (L.kept / 48) % 48 = 0 from by omega]
    rfl
  have e2 : (L.wbs 0).length = sizes L.rs - 48 * (L.kept / 48) := by rw [e1, List.length_drop, frames_length]
  refine ⟨by omega, e1, e2, ?_⟩
  rw [e2]; unfold secs; omega
theorem LogH.wrs (h : LogH S L) {y : Nat × List UInt8} (hy : y ∈ Proofs.YtccmmnacejdeoaaGreatDoor.wrs L.fOps) : ∃ i, L.kept / 48 ≤ i ∧ i < secs (sizes L.rs) ∧ y = (146 + i, sectB i 1 (((frames 1 L.rs).drop (48 * i)).take 48)) := by
  obtain ⟨e0, e1, e2, e3⟩ := h.parts
  obtain ⟨j, hj, e⟩ := wrs_w _ _ _ _ _ hy
  have hf := h.fits
  have h36 : secs (sizes L.rs) ≤ 36 := by unfold secs; omega
  rw [e0, h.place _ (by omega), h.life, e1, List.drop_drop] at e
  refine ⟨L.kept / 48 + j, by omega, by omega, ?_⟩
  rw [e, show 48 * (L.kept / 48) + 48 * j = 48 * (L.kept / 48 + j) from by omega]
theorem LogH.split (h : LogH S L) : frames 1 L.rs = frames 1 (L.rs.take L.flushed) ++ frames (1 + L.flushed) (L.rs.drop L.flushed) := by
  conv => lhs; rw [← List.take_append_drop L.flushed L.rs, frames_append]
  rw [List.length_take, Nat.min_eq_left h.fl]
theorem LogH.klen (h : LogH S L) : (frames 1 (L.rs.take L.flushed)).length = L.kept := by rw [frames_length, h.kept]
theorem LogH.pre (h : LogH S L) : frames 1 (L.rs.take L.flushed) = (frames 1 L.rs).take L.kept := by
  have e := h.split
  rw [e, List.take_append_of_le_length (by rw [h.klen]; exact Nat.le_refl _), ← h.klen, List.take_length]
set_option maxHeartbeats 1600000 in
/-- What is there when some of the sectors that Flush writes are there. -/
theorem LogH.some (h : LogH S L) {S' : DS} (hlen : S'.now.length = S.now.length) {ys : List (Nat × List UInt8)} (hys : ∀ y ∈ ys, y ∈ Proofs.YtccmmnacejdeoaaGreatDoor.wrs L.fOps) (hn : S'.now = setAll S.now ys) : LogS S' L.flushed := by
  have hf := h.fits
  have hkl := h.keptLe
  have hln := h.len
  obtain ⟨B, hB⟩ : ∃ B, frames 1 L.rs = B := ⟨_, rfl⟩
  obtain ⟨N, hN⟩ : ∃ N, sizes L.rs = N := ⟨_, rfl⟩
  have hBl : B.length = N := by rw [← hB, frames_length, hN]
  obtain ⟨B', hB'⟩ : ∃ B', frames 1 (L.rs.take L.flushed) = B' := ⟨_, rfl⟩
  have hBl' : B'.length = L.kept := by rw [← hB']; exact h.klen
  have hpre : B' = B.take L.kept := by rw [← hB', ← hB]; exact h.pre
  have hspl : B = B' ++ frames (1 + L.flushed) (L.rs.drop L.flushed) := by rw [← hB, ← hB']; exact h.split
  have hsec := h.sec
  have hnon := h.non
  have hw : ∀ y ∈ ys, ∃ i, L.kept / 48 ≤ i ∧ i < secs N ∧ y = (146 + i, sectB i 1 ((B.drop (48 * i)).take 48)) := fun y hy => by
    have := h.wrs (hys y hy)
    rwa [hB, hN] at this
  rw [hB'] at hsec
  rw [hN] at hf hkl
  obtain ⟨kp, hkp⟩ : ∃ kp, L.kept = kp := ⟨_, rfl⟩
  rw [hkp] at hkl hBl' hpre hsec hnon hw
  have hat : ∀ j, S'.now.getD j [] = S.now.getD j [] ∨ ∃ y ∈ ys, y.1 = j ∧ S'.now.getD j [] = y.2 := fun j => by
    rw [hn]
    rcases setAll_at ys S.now j with e | ⟨y, hy, h1, h2⟩
    · left; rw [List.getD_eq_getElem?_getD, List.getD_eq_getElem?_getD, e]
    · right; exact ⟨y, hy, h1, by rw [List.getD_eq_getElem?_getD, h2]; rfl⟩
  have hold : ∀ j, (j < 146 ∨ j < 146 + kp / 48 ∨ 146 + secs N ≤ j) → S'.now.getD j [] = S.now.getD j [] := fun j hj => by
    rcases hat j with e | ⟨y, hy, h1, _⟩
    · exact e
    · obtain ⟨i, i1, i2, rfl⟩ := hw y hy
      dsimp only at h1
      omega
  have hor : ∀ i, S'.now.getD (146 + i) [] = S.now.getD (146 + i) [] ∨ S'.now.getD (146 + i) [] = sectB i 1 ((B.drop (48 * i)).take 48) := fun i => by
    rcases hat (146 + i) with e | ⟨y, hy, h1, h2⟩
    · exact .inl e
    · obtain ⟨i', i1, i2, rfl⟩ := hw y hy
      dsimp only at h1 h2
      obtain rfl : i' = i := by omega
      exact .inr h2
  have hpl : ∀ i, i < 78 → (LS.empty 144 80).place (0 + i) = 146 + i := fun i hi => by
    show 144 + 2 + (0 + i) % 78 = _
    rw [Nat.mod_eq_of_lt (by omega)]; omega
  have hM : secs N ≤ 36 := by unfold secs; omega
  have hj0 : kp / 48 ≤ secs N := by unfold secs; omega
  -- the sectors that are as B has them
  obtain ⟨t, ht, hP, hnP⟩ := last_of (fun i => S'.now.getD (146 + i) [] = sectB i 1 ((B.drop (48 * i)).take 48)) (secs N)
  have hlow : ∀ i, i < kp / 48 → S'.now.getD (146 + i) [] = sectB i 1 ((B.drop (48 * i)).take 48) := fun i hi => by
    rw [hold _ (.inr (.inl (by omega))), hsec i (by unfold secs; omega), hpre, chunk_take (by omega)]
  have htj : kp / 48 ≤ t := by
    rcases hnP with e | e
    · omega
    · rcases Nat.lt_or_ge t (kp / 48) with h | h
      · exact absurd (hlow t h) e
      · exact h
  have hrs : (L.rs.take L.flushed).length = L.flushed := by rw [List.length_take, Nat.min_eq_left h.fl]
  have hr1 : ∀ r ∈ L.rs.take L.flushed, r.length ≤ 2000 := fun r hr => by rw [h.one r (List.mem_of_mem_take hr)]; omega
  have hK : L.flushed ≤ 400000 := by have := h.fl; have := h.cnt; omega
  have hh0 : ∀ i, i < 2 → hLsn (S'.now.getD (144 + i) []) = 0 := fun i hi => by rw [hold _ (.inl (by omega))]; exact h.h0 i hi
  refine ⟨hh0, ?_, hK⟩
  by_cases hA : t = secs N
  · refine ⟨L.rs.take L.flushed, frames (1 + L.flushed) (L.rs.drop L.flushed), secs N, ?_, hrs, hr1⟩
    rw [hB', ← hspl]
    refine ⟨fun i hi => ?_, ?_, fun _ => ?_, fun _ _ _ _ => Nat.le_refl _, fun _ _ => by omega, by omega, by show _ ≤ 78; omega, fun he hlt hg => ?_⟩
    · rw [hpl i (by omega), Nat.zero_add]
      exact hP i (by omega)
    · rw [hBl]; unfold secs; omega
    · rw [hBl]; unfold secs; omega
    · rw [hpl _ (by omega), hold _ (.inr (.inr (Nat.le_refl _))), hnon _ (by unfold secs; omega) (by omega)] at hg
      cases hg.1
  · have hnt : ¬ S'.now.getD (146 + t) [] = sectB t 1 ((B.drop (48 * t)).take 48) := by
      rcases hnP with e | e
      · exact absurd e hA
      · exact e
    have hot : S'.now.getD (146 + t) [] = S.now.getD (146 + t) [] := by
      rcases hor t with e | e
      · exact e
      · exact absurd e hnt
    by_cases hC : t < secs kp
    · -- the last sector that was there, not full, as it was
      have ht2 : t = kp / 48 ∧ secs kp = t + 1 := by unfold secs at hC ⊢; omega
      have hnf : kp % 48 ≠ 0 := by unfold secs at hC; omega
      refine ⟨L.rs.take L.flushed, [], t + 1, ?_, hrs, hr1⟩
      rw [hB', List.append_nil]
      refine ⟨fun i hi => ?_, ?_, fun _ => ?_, fun _ _ _ _ => Nat.le_refl _, fun _ _ => by omega, by omega, by show _ ≤ 78; omega, fun he hlt hg => ?_⟩
      · rw [hpl i (by omega), Nat.zero_add, ← hsec i (by omega)]
        rcases Nat.lt_or_ge i t with h | h
        · exact hold _ (.inr (.inl (by omega)))
        · rw [show i = t from by omega]; exact hot
      · rw [hBl']; omega
      · rw [hBl']; omega
      · rw [hBl'] at he; omega
    · have h48 : 48 * t ≤ N := by unfold secs at ht hA; omega
      have hkt : kp ≤ 48 * t := by unfold secs at hC; omega
      refine ⟨L.rs.take L.flushed, (frames (1 + L.flushed) (L.rs.drop L.flushed)).take (48 * t - kp), t, ?_, hrs, hr1⟩
      have ebs : frames 1 (L.rs.take L.flushed) ++ (frames (1 + L.flushed) (L.rs.drop L.flushed)).take (48 * t - kp) = B.take (48 * t) := by
        rw [hB', hspl, List.take_append, hBl', List.take_of_length_le (show B'.length ≤ 48 * t by omega)]
      rw [ebs]
      have hbl : (B.take (48 * t)).length = 48 * t := by rw [List.length_take, hBl]; omega
      refine ⟨fun i hi => ?_, ?_, fun _ => ?_, fun _ _ _ _ => Nat.le_refl _, fun _ _ => by omega, by omega, by show _ ≤ 78; omega, fun he hlt hg => ?_⟩
      · rw [hpl i (by omega), Nat.zero_add, chunk_take (by omega)]
        exact hP i hi
      · rw [hbl]; exact Nat.le_refl _
      · rw [hbl]; omega
      · rw [hpl _ (by omega), hot, hnon _ (by omega) (by omega)] at hg
        cases hg.1
/-- Behind a crash within Flush, or behind it. -/
theorem LogH.crash (h : LogH S L) (hq : Quiet S) (keep : List Int) : LogS ((runs S (L.fOps ++ [.fl])).1.crash keep) L.flushed ∧ ∀ j, (j < 146 ∨ 224 ≤ j) → ((runs S (L.fOps ++ [.fl])).1.crash keep).now[j]? = S.now[j]? := by
  obtain ⟨ys, h1, h2⟩ := crash_one L.fOps (noFl_w _ _ _ _) hq keep
  have hf := h.fits
  refine ⟨h.some (by rw [h2, setAll_length]) h1 h2, fun j hj => ?_⟩
  rw [h2]
  rcases setAll_at ys S.now j with e | ⟨y, hy, e, _⟩
  · exact e
  · obtain ⟨i, i1, i2, rfl⟩ := h.wrs (h1 y hy)
    dsimp only at e
    unfold secs at i2
    omega
/-- A log that is left as it is. -/
theorem LogH.now (h : LogH S L) : LogS S L.flushed := h.some rfl (ys := []) (fun y hy => by simp at hy) rfl
theorem nowOps_w (L : LS) (no : Nat) (bs : List UInt8) (now : List (List UInt8)) : ∀ n x, (nowOps now (L.wOps no bs n)).getD x [] = now.getD x [] ∨ ∃ j, j < n ∧ x = L.place (no + j) ∧ (nowOps now (L.wOps no bs n)).getD x [] = sectB (no + j) L.life ((bs.drop (48 * j)).take 48)
  | 0, x => .inl rfl
  | n + 1, x => by
    rw [LS.wOps, nowOps_append]
    show ((nowOps now (L.wOps no bs n)).set _ _).getD x [] = _ ∨ ∃ j, _ ∧ _ ∧ ((nowOps now (L.wOps no bs n)).set _ _).getD x [] = _
    by_cases hx : L.place (no + n) = x ∧ x < (nowOps now (L.wOps no bs n)).length
    · right
      refine ⟨n, by omega, hx.1.symm, ?_⟩
      rw [List.getD_eq_getElem?_getD, List.getElem?_set, if_pos hx.1, if_pos (by rw [hx.1]; exact hx.2)]; rfl
    · have e : ((nowOps now (L.wOps no bs n)).set (L.place (no + n)) (sectB (no + n) L.life ((bs.drop (48 * n)).take 48))).getD x [] = (nowOps now (L.wOps no bs n)).getD x [] := by
        rw [List.getD_eq_getElem?_getD, List.getD_eq_getElem?_getD, List.getElem?_set]
        by_cases h1 : L.place (no + n) = x
        · rw [if_pos h1, if_neg (fun h2 => hx ⟨h1, by rw [← h1]; exact h2⟩), List.getElem?_eq_none (by have := fun h2 => hx ⟨h1, h2⟩; omega)]
        · rw [if_neg h1]
      rw [e]
      rcases nowOps_w L no bs now n x with h | ⟨j, h1, h2⟩
      · exact .inl h
      · exact .inr ⟨j, by omega, h2⟩
theorem nowOps_length (l : List WOp) : ∀ now, (nowOps now l).length = now.length := by
  induction l with
  | nil => intro now; rfl
  | cons o l ih =>
    intro now
    cases o with
    | wr i s => rw [nowOps, ih, List.length_set]
    | fl => exact ih now
theorem nowOps_hit (L : LS) (no : Nat) (bs : List UInt8) (now : List (List UInt8)) (hp : ∀ x, L.place x < now.length) : ∀ n, n ≤ L.n - 2 → ∀ i, i < n → (nowOps now (L.wOps no bs n)).getD (L.place (no + i)) [] = sectB (no + i) L.life ((bs.drop (48 * i)).take 48)
  | 0, _, i, hi => by omega
  | n + 1, hn, i, hi => by
    rw [LS.wOps, nowOps_append]
    show ((nowOps now (L.wOps no bs n)).set _ _).getD _ [] = _
    rw [List.getD_eq_getElem?_getD, List.getElem?_set]
    by_cases e : i = n
    · subst e
      rw [if_pos rfl, if_pos (by rw [nowOps_length]; exact hp _)]; rfl
    · rw [if_neg (fun e2 => by
        have : (no + i) % (L.n - 2) ≠ (no + n) % (L.n - 2) := mod_inj (by omega) (by omega)
        unfold LS.place at e2
        omega), ← List.getD_eq_getElem?_getD]
      exact nowOps_hit L no bs now hp n (by omega) i (by omega)
set_option maxHeartbeats 1600000 in
/-- Flush that came to its end. -/
theorem LogH.done (h : LogH S L) (hq : Quiet S) (hc : (runs S (L.fOps ++ [.fl])).2 = 0) : LogH (runs S (L.fOps ++ [.fl])).1 L.flushed' ∧ Quiet (runs S (L.fOps ++ [.fl])).1 ∧ (runs S (L.fOps ++ [.fl])).1.now.length = S.now.length ∧ ∀ j, (j < 146 ∨ 224 ≤ j) → (runs S (L.fOps ++ [.fl])).1.now[j]? = S.now[j]? := by
  obtain ⟨h1, h2⟩ := run_one L.fOps (noFl_w _ _ _ _) hq hc
  obtain ⟨S', hS'⟩ : ∃ S', (runs S (L.fOps ++ [.fl])).1 = S' := ⟨_, rfl⟩
  rw [hS'] at h1 h2 ⊢
  have hf := h.fits
  have hln := h.len
  have hkl := h.keptLe
  obtain ⟨e0, e1, e2, e3⟩ := h.parts
  have hlen : S'.now.length = S.now.length := by rw [h1, nowOps_length]
  have hM : secs (sizes L.rs) ≤ 36 := by unfold secs; omega
  have hj : L.kept / 48 ≤ secs (sizes L.rs) := by omega
  have hpl : ∀ x, L.place x < S.now.length := fun x => by
    unfold LS.place
    rw [h.start, h.n]
    have := Nat.mod_lt x (show 0 < 80 - 2 by omega)
    omega
  have hother : ∀ j, (j < 146 + L.kept / 48 ∨ 146 + secs (sizes L.rs) ≤ j) → S'.now.getD j [] = S.now.getD j [] := fun j hj => by
    rw [h1]
    rcases nowOps_w L (L.from0 0 / 48) (L.wbs 0) S.now (secs (L.wbs 0).length) j with e | ⟨i, i1, i2, _⟩
    · exact e
    · rw [e0, h.place _ (by omega)] at i2
      omega
  have hnew : ∀ i, L.kept / 48 ≤ i → i < secs (sizes L.rs) → S'.now.getD (146 + i) [] = sectB i 1 (((frames 1 L.rs).drop (48 * i)).take 48) := fun i i1 i2 => by
    have := nowOps_hit L (L.from0 0 / 48) (L.wbs 0) S.now hpl (secs (L.wbs 0).length) (by rw [h.n]; omega) (i - L.kept / 48) (by omega)
    rw [e0, show L.kept / 48 + (i - L.kept / 48) = i from by omega, h.place i (by omega), h.life, e1, List.drop_drop, show 48 * (L.kept / 48) + 48 * (i - L.kept / 48) = 48 * i from by omega] at this
    rw [h1]
    unfold LS.fOps
    rw [e0, e1]
    exact this
  have hnx := h.nx
  have hall : L.rs.take (L.next - 1) = L.rs := List.take_of_length_le (by omega)
  have hsecs : ∀ i, i < secs (sizes L.rs) → S'.now.getD (146 + i) [] = sectB i 1 (((frames 1 L.rs).drop (48 * i)).take 48) := fun i hi => by
    rcases Nat.lt_or_ge i (L.kept / 48) with h' | h'
    · rw [hother _ (.inl (by omega)), h.sec i (by unfold secs; omega), h.pre, chunk_take (by omega)]
    · exact hnew i h' hi
  refine ⟨?_, h2, hlen, fun j hj => ?_⟩
  · exact {
      start := h.start
      n := h.n
      first := h.first
      life := h.life
      laid := ⟨h.laid.at_, h.laid.fin⟩
      fl := by show L.next - 1 ≤ L.rs.length; omega
      kept := by show L.fin = sizes (L.rs.take (L.next - 1)); rw [hall]; exact h.fin
      nx := h.nx
      one := h.one
      cnt := h.cnt
      room := h.room
      h0 := fun i hi => by rw [hother _ (.inl (by omega))]; exact h.h0 i hi
      sec := fun i hi => by
        show S'.now.getD (146 + i) [] = sectB i 1 (((frames 1 (L.rs.take (L.next - 1))).drop (48 * i)).take 48)
        rw [hall]
        have hi : i < secs L.fin := hi
        rw [h.fin] at hi
        exact hsecs i hi
      non := fun i hi hi2 => by
        have hi : secs L.fin ≤ i := hi
        rw [h.fin] at hi
        rw [hother _ (.inr (by omega))]
        refine h.non i ?_ hi2
        unfold secs at hi ⊢; omega
      len := by rw [hlen]; exact h.len }
  · refine getD_get' hlen (hother j ?_)
    omega
end
end Go.Proofs.YtccmmnacejdeoaaGreatDoor
