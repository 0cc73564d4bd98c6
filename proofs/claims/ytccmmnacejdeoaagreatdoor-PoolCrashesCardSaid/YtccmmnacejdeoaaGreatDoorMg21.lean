/-
  PgInv, PgSnd, PgLeft, in one text.
-/
import Derived.Test.YtccmmnacejdeoaaGreatDoorMg20
import Derived.Test.YtccmmnacejdeoaaGreatDoorMg19
import Derived.Deep.DeepCutAuto
/-
  What a file's sectors hold between two calls, and behind a Write (plain).
-/
namespace Go.Proofs.YtccmmnacejdeoaaGreatDoor
set_option linter.unusedSimpArgs false
set_option linter.unusedVariables false
open Go.RowKit

def curB (c : Option PgV) : List UInt8 := match c with
  | none => zeros 512
  | some x => imgB x 0
def plcB (q : Option (PgV × Nat)) : List UInt8 := match q with
  | none => zeros 512
  | some x => imgB x.1 x.2
/-- The sectors of a file: the pages, the lot that was written last. -/
structure PSt (now : List (List UInt8)) (at0 pages T : Nat) (lot : List PgV) (cur : Nat → Option PgV) : Prop where
  s64 : ∀ (j : Nat) s, now[j]? = some s → s.length = 64
  len : at0 + 8 * pages + 80 ≤ now.length
  page : ∀ no, no < pages → secN now (at0 + 8 * no) 8 = curB (cur no)
  cok : ∀ no x, no < pages → cur no = some x → x.Ok ∧ x.no = no
  head : now[at0 + 8 * pages]? = some (if lot = [] then zeros 64 else lotB T lot.length)
  place : ∀ j, j < 8 → ∃ q, secN now (at0 + 8 * pages + 1 + 8 * j) 8 = plcB q ∧ (∀ x, q = some x → x.1.Ok ∧ x.2 ≤ T) ∧ (∀ x, lot[j]? = some x → q = some (x, T))
  l8 : lot.length ≤ 8
  lok : ∀ x ∈ lot, x.Ok ∧ x.no < pages ∧ cur x.no = some x
  T0 : lot = [] → T = 0
  Tlt : T < 4611686018427387904

def layNow (now : List (List UInt8)) (at0 : Nat) (l : List PgV) : Nat → List (List UInt8)
  | 0 => now
  | k + 1 => match l[k]? with
    | some x => wrNow (layNow now at0 l k) (at0 + 8 * x.no) (imgB x 0) 8
    | none => layNow now at0 l k
def plcNow (now : List (List UInt8)) (sp t : Nat) (l : List PgV) : Nat → List (List UInt8)
  | 0 => now
  | k + 1 => match l[k]? with
    | some x => wrNow (plcNow now sp t l k) (sp + 1 + 8 * k) (imgB x t) 8
    | none => plcNow now sp t l k
def curW (cur : Nat → Option PgV) (l : List PgV) : Nat → Nat → Option PgV
  | 0 => cur
  | k + 1 => match l[k]? with
    | some x => fun no => if no = x.no then some x else curW cur l k no
    | none => curW cur l k
section
variable {now : List (List UInt8)} {at0 sp t : Nat} {l : List PgV}
theorem layNow_length : ∀ k, (layNow now at0 l k).length = now.length
  | 0 => rfl
  | k + 1 => by
    unfold layNow
    split
    · rw [wrNow_length, layNow_length k]
    · exact layNow_length k
theorem plcNow_length : ∀ k, (plcNow now sp t l k).length = now.length
  | 0 => rfl
  | k + 1 => by
    unfold plcNow
    split
    · rw [wrNow_length, plcNow_length k]
    · exact plcNow_length k
theorem wrNow_64 {b : List UInt8} {i n : Nat} (hs : ∀ (j : Nat) s, now[j]? = some s → s.length = 64) (hb : b.length = 64 * n) : ∀ k, k ≤ n → ∀ (j : Nat) s, (wrNow now i b k)[j]? = some s → s.length = 64
  | 0, _, j, s, h => hs j s h
  | k + 1, hk, j, s, h => by
    rw [wrNow, List.getElem?_set] at h
    split at h
    · split at h
      · injection h with h
        rw [← h, List.length_take, List.length_drop]; omega
      · cases h
    · exact wrNow_64 hs hb k (by omega) j s h
theorem layNow_64 (hs : ∀ (j : Nat) s, now[j]? = some s → s.length = 64) (hl : ∀ x ∈ l, x.Ok) : ∀ k, ∀ (j : Nat) s, (layNow now at0 l k)[j]? = some s → s.length = 64
  | 0 => hs
  | k + 1 => by
    unfold layNow
    split
    · rename_i x hx
      exact wrNow_64 (layNow_64 hs hl k) (by rw [imgB_length x 0 (hl x (List.mem_of_getElem? hx)).d]) 8 (Nat.le_refl _)
    · exact layNow_64 hs hl k
theorem plcNow_64 (hs : ∀ (j : Nat) s, now[j]? = some s → s.length = 64) (hl : ∀ x ∈ l, x.Ok) : ∀ k, ∀ (j : Nat) s, (plcNow now sp t l k)[j]? = some s → s.length = 64
  | 0 => hs
  | k + 1 => by
    unfold plcNow
    split
    · rename_i x hx
      exact wrNow_64 (plcNow_64 hs hl k) (by rw [imgB_length x t (hl x (List.mem_of_getElem? hx)).d]) 8 (Nat.le_refl _)
    · exact plcNow_64 hs hl k
/-- What lies behind the pages is kept. -/
theorem layNow_other {pages : Nat} (hl : ∀ x ∈ l, x.no < pages) (j : Nat) (hj : at0 + 8 * pages ≤ j) : ∀ k, (layNow now at0 l k)[j]? = now[j]?
  | 0 => rfl
  | k + 1 => by
    unfold layNow
    split
    · rename_i x hx
      have := hl x (List.mem_of_getElem? hx)
      rw [wrNow_other _ _ _ _ _ (.inr (by omega)), layNow_other hl j hj k]
    · exact layNow_other hl j hj k
theorem plcNow_other (j : Nat) (hj : j ≤ sp) : ∀ k, (plcNow now sp t l k)[j]? = now[j]?
  | 0 => rfl
  | k + 1 => by
    unfold plcNow
    split
    · rw [wrNow_other _ _ _ _ _ (.inl (by omega)), plcNow_other j hj k]
    · exact plcNow_other j hj k
theorem layNow_page {pages : Nat} {cur : Nat → Option PgV} (hok : ∀ x ∈ l, x.Ok ∧ x.no < pages) (hlen : at0 + 8 * pages ≤ now.length) (no : Nat) (hno : no < pages) (h : secN now (at0 + 8 * no) 8 = curB (cur no)) : ∀ k, secN (layNow now at0 l k) (at0 + 8 * no) 8 = curB (curW cur l k no)
  | 0 => h
  | k + 1 => by
    have ih := layNow_page hok hlen no hno h k
    unfold layNow curW
    cases hx : l[k]? with
    | none => exact ih
    | some x =>
      have hxo := hok x (List.mem_of_getElem? hx)
      dsimp only
      by_cases e : no = x.no
      · rw [if_pos e, ← e]
        exact secN_wr _ _ _ 8 (by rw [layNow_length]; omega) (imgB_length x 0 hxo.1.d)
      · rw [if_neg e, secN_wr_other _ _ _ _ _ _ (by omega)]
        exact ih
theorem plcNow_place (hok : ∀ x ∈ l, x.Ok) (hlen : sp + 80 ≤ now.length) (h8 : l.length ≤ 8) (j : Nat) (hj : j < 8) : ∀ k, k ≤ l.length → secN (plcNow now sp t l k) (sp + 1 + 8 * j) 8 = if j < k then plcB ((l[j]?).map fun x => (x, t)) else secN now (sp + 1 + 8 * j) 8
  | 0, _ => by rw [if_neg (by omega)]; rfl
  | k + 1, hk => by
    have ih := plcNow_place hok hlen h8 j hj k (by omega)
    unfold plcNow
    have hkl : k < l.length := by omega
    rw [List.getElem?_eq_getElem hkl]
    dsimp only
    by_cases e : j = k
    · subst e
      rw [if_pos (by omega), List.getElem?_eq_getElem hkl]
      exact secN_wr _ _ _ 8 (by rw [plcNow_length]; omega) (imgB_length _ t (hok _ (List.getElem_mem hkl)).d)
    · rw [secN_wr_other _ _ _ _ _ _ (by omega), ih]
      by_cases h2 : j < k
      · rw [if_pos h2, if_pos (by omega)]
      · rw [if_neg h2, if_neg (by omega)]
end
theorem curW_of (cur : Nat → Option PgV) (l : List PgV) (hd : ∀ (i j : Nat) x y, l[i]? = some x → l[j]? = some y → x.no = y.no → i = j) : ∀ k (i : Nat) x, i < k → l[i]? = some x → curW cur l k x.no = some x
  | k + 1, i, x, hi, hx => by
    unfold curW
    cases hy : l[k]? with
    | none =>
      have : i < l.length := (List.getElem?_eq_some_iff.1 hx).1
      have : l.length ≤ k := List.getElem?_eq_none_iff.1 hy
      exact curW_of cur l hd k i x (by omega) hx
    | some y =>
      dsimp only
      by_cases e : x.no = y.no
      · rw [if_pos e]
        have := hd i k x y hx hy e
        subst this
        rw [hx] at hy; exact hy.symm
      · rw [if_neg e]
        have : i ≠ k := fun e2 => by subst e2; rw [hx] at hy; injection hy with hy; exact e (by rw [hy])
        exact curW_of cur l hd k i x (by omega) hx
theorem curW_cok {cur : Nat → Option PgV} {l : List PgV} {pages : Nat} (hok : ∀ x ∈ l, x.Ok) (h : ∀ no x, no < pages → cur no = some x → x.Ok ∧ x.no = no) : ∀ k no x, no < pages → curW cur l k no = some x → x.Ok ∧ x.no = no
  | 0, no, x, hn, hx => h no x hn hx
  | k + 1, no, x, hn, hx => by
    unfold curW at hx
    cases hy : l[k]? with
    | none => rw [hy] at hx; exact curW_cok hok h k no x hn hx
    | some y =>
      rw [hy] at hx
      dsimp only at hx
      split at hx
      · rename_i e
        injection hx with hx
        subst hx
        exact ⟨hok y (List.mem_of_getElem? hy), e.symm⟩
      · exact curW_cok hok h k no x hn hx
/-- The sectors behind a Write. -/
def wrote (now : List (List UInt8)) (at0 pages t : Nat) (l : List PgV) : List (List UInt8) :=
  layNow (wrNow (plcNow now (at0 + 8 * pages) t l l.length) (at0 + 8 * pages) (lotB t l.length) 1) at0 l l.length
theorem PSt.wrote {now : List (List UInt8)} {at0 pages T : Nat} {lot : List PgV} {cur : Nat → Option PgV} (h : PSt now at0 pages T lot cur) {l : List PgV} (h0 : l ≠ []) (h8 : l.length ≤ 8) (hok : ∀ x ∈ l, x.Ok ∧ x.no < pages)
    (hd : ∀ (i j : Nat) x y, l[i]? = some x → l[j]? = some y → x.no = y.no → i = j) (hT : T + 1 < 4611686018427387904) : PSt (wrote now at0 pages (T + 1) l) at0 pages (T + 1) l (curW cur l l.length) := by
  have hln := h.len
  have hok1 : ∀ x ∈ l, x.Ok := fun x hx => (hok x hx).1
  have hok2 : ∀ x ∈ l, x.no < pages := fun x hx => (hok x hx).2
  have hpl : (plcNow now (at0 + 8 * pages) (T + 1) l l.length).length = now.length := plcNow_length _
  refine ⟨?_, ?_, ?_, curW_cok hok1 h.cok _, ?_, ?_, h8, ?_, fun e => absurd e h0, hT⟩
  · exact layNow_64 (wrNow_64 (plcNow_64 h.s64 hok1 _) (by rw [lotB_length]) 1 (Nat.le_refl _)) hok1 _
  · unfold Proofs.YtccmmnacejdeoaaGreatDoor.wrote; rw [layNow_length, wrNow_length, hpl]; exact hln
  · intro no hno
    refine layNow_page hok (by rw [wrNow_length, hpl]; omega) no hno ?_ _
    rw [secN_wr_other _ _ _ _ _ _ (by omega), ← h.page no hno]
    exact secN_congr _ _ (fun k hk => plcNow_other _ (by omega) _)
  · unfold Proofs.YtccmmnacejdeoaaGreatDoor.wrote
    rw [layNow_other hok2 _ (Nat.le_refl _), if_neg h0]
    have := wrNow_at (plcNow now (at0 + 8 * pages) (T + 1) l l.length) (at0 + 8 * pages) (lotB (T + 1) l.length) 0 1 (by omega) (by rw [hpl]; omega)
    refine Eq.trans this ?_
    rw [Nat.mul_zero, List.drop_zero, List.take_of_length_le (by rw [lotB_length]; omega)]
  · intro j hj
    have e1 : secN (Proofs.YtccmmnacejdeoaaGreatDoor.wrote now at0 pages (T + 1) l) (at0 + 8 * pages + 1 + 8 * j) 8 = secN (plcNow now (at0 + 8 * pages) (T + 1) l l.length) (at0 + 8 * pages + 1 + 8 * j) 8 := by
      unfold Proofs.YtccmmnacejdeoaaGreatDoor.wrote
      rw [secN_congr _ _ (fun k hk => layNow_other hok2 _ (by omega) _), secN_wr_other _ _ _ _ _ _ (by omega)]
    rw [e1, plcNow_place hok1 (by omega) h8 j hj l.length (Nat.le_refl _)]
    by_cases hjl : j < l.length
    · rw [if_pos hjl, List.getElem?_eq_getElem hjl]
      refine ⟨some (l[j], T + 1), rfl, fun x hx => ?_, fun x hx => ?_⟩
      · injection hx with hx; subst hx; exact ⟨hok1 _ (List.getElem_mem hjl), Nat.le_refl _⟩
      · injection hx with hx; rw [hx]
    · rw [if_neg hjl]
      obtain ⟨q, q1, q2, q3⟩ := h.place j hj
      refine ⟨q, q1, fun x hx => ⟨(q2 x hx).1, by have := (q2 x hx).2; omega⟩, fun x hx => ?_⟩
      exact absurd (List.getElem?_eq_some_iff.1 hx).1 hjl
  · intro x hx
    obtain ⟨i, hi⟩ := List.mem_iff_getElem?.1 hx
    exact ⟨hok1 x hx, hok2 x hx, curW_of cur l hd _ i x (List.getElem?_eq_some_iff.1 hi).1 hi⟩
/-- A lot that is laid again changes nothing. -/
theorem PSt.laid {now : List (List UInt8)} {at0 pages T : Nat} {lot : List PgV} {cur : Nat → Option PgV} (h : PSt now at0 pages T lot cur) : ∀ k, layNow now at0 lot k = now
  | 0 => rfl
  | k + 1 => by
    unfold layNow
    cases hx : lot[k]? with
    | none => exact h.laid k
    | some x =>
      dsimp only
      obtain ⟨x1, x2, x3⟩ := h.lok x (List.mem_of_getElem? hx)
      have hp := h.page x.no x2
      rw [x3] at hp
      have hln := h.len
      rw [h.laid k]
      have : imgB x 0 = secN now (at0 + 8 * x.no) 8 := hp.symm
      rw [this]
      exact wrNow_same h.s64 _ 8 (by omega) 8 (Nat.le_refl _)
/-- A new disk. -/
theorem PSt.new (n at0 pages : Nat) (h : at0 + 8 * pages + 80 ≤ n) : PSt (List.replicate n nought) at0 pages 0 [] (fun _ => none) := by
  have hg : ∀ j, j < n → (List.replicate n nought)[j]? = some (zeros 64) := fun j hj => by rw [List.getElem?_replicate, if_pos hj]; rfl
  have hs : ∀ m i, i + m ≤ n → secN (List.replicate n nought) i m = zeros (64 * m) := by
    intro m
    induction m with
    | zero => intro i _; rfl
    | succ m ih =>
      intro i hi
      rw [secN, ih i (by omega), List.getD_eq_getElem?_getD, hg _ (by omega)]
      show zeros (64 * m) ++ zeros 64 = _
      unfold zeros
      rw [List.replicate_append_replicate]; congr 1
  refine ⟨fun j s hj => ?_, by rw [List.length_replicate]; exact h, fun no hno => ?_, fun no x _ hx => (by cases hx), ?_, fun j hj => ⟨none, ?_, fun x hx => (by cases hx), fun x hx => (by simp at hx)⟩, by simp, fun x hx => (by simp at hx), fun _ => rfl, by omega⟩
  · have hl : j < n := by have := (List.getElem?_eq_some_iff.1 hj).1; rwa [List.length_replicate] at this
    rw [hg j hl] at hj
    injection hj with hj
    rw [← hj, zeros_length]
  · exact hs 8 _ (by omega)
  · rw [if_pos rfl]; exact hg _ (by omega)
  · exact hs 8 _ (by omega)
end Go.Proofs.YtccmmnacejdeoaaGreatDoor

/-
  sound, over any sectors that are.
-/
namespace Go.Proofs.YtccmmnacejdeoaaGreatDoor
set_option linter.unusedSimpArgs false
set_option linter.unusedVariables false
open Go.RowKit

/-- All pages of a file are whole, or noughts. -/
structure PSound (now : List (List UInt8)) (at0 pages : Nat) : Prop where
  s64 : ∀ (j : Nat) s, now[j]? = some s → s.length = 64
  len : at0 + 8 * pages + 80 ≤ now.length
  page : ∀ no, no < pages → (secN now (at0 + 8 * no) 8).all (· == 0) = true ∨ ((secN now (at0 + 8 * no) 8).all (· == 0) = false ∧ pgOk (secN now (at0 + 8 * no) 8) = true ∧ (pgX (secN now (at0 + 8 * no) 8)).no = no ∧ pgTurn (secN now (at0 + 8 * no) 8) = 0)
theorem PSound.l512 {now : List (List UInt8)} {at0 pages : Nat} (h : PSound now at0 pages) (no : Nat) (hn : no < pages) : (secN now (at0 + 8 * no) 8).length = 512 := by
  have := h.len
  rw [secN_length h.s64 _ 8 (by omega)]
theorem PSt.sound {now : List (List UInt8)} {at0 pages T : Nat} {lot : List PgV} {cur : Nat → Option PgV} (h : PSt now at0 pages T lot cur) : PSound now at0 pages := by
  refine ⟨h.s64, h.len, fun no hno => ?_⟩
  rw [h.page no hno]
  cases hc : cur no with
  | none => exact .inl (zeros_all 512)
  | some x =>
    obtain ⟨x1, x2⟩ := h.cok no x hno hc
    exact .inr ⟨img_some x 0 x1, img_ok x 0 x1 (by omega), by rw [show curB (some x) = imgB x 0 from rfl, img_x x 0 x1, x2], by rw [show curB (some x) = imgB x 0 from rfl, img_turn x 0 x1.d (by omega)]⟩

set_option maxHeartbeats 3200000 in
set_option maxRecDepth 100000 in
theorem sound_any {R : Nat → Prop} {w : World} {p d at0 pages turn : Nat} {S : DS} (h : FileAt w p d at0 pages turn) (hd : DiskOk R w d S) (hl : S.dead = false) (hp : PSound S.now at0 pages) :
    Calls Tryz.prog 40 #[.pointer (some ⟨p, 0, none⟩)] w fun e w' => e = .returned (.int .i64 0) ∧ Fr Nob w w' := by
  have H := Lib.hid h
  have hp0 := h.lt
  have c0 := h.cell 2
  simp only [List.getElem?_toArray, List.getElem?_cons_zero, List.getElem?_cons_succ] at c0
  have HD := Lib.hid hd
  have HP := Lib.hid hp
  have hsm := hd.small
  have hln := hp.len
  have HDead := Lib.hid hl
  clear h hd hl hp
  go_enter Tryz.func40, Tryz.ntmps40
  go_wp2
  go_step3
  go_wp2
  go_step3
  go_wp2
  go_loopw [3, 4, 5, 6, 7, 8, 9, 14, 29, 33] (fun wrong _ _ _ _ _ _ iv _ _ wr => ∃ k : Nat, k ≤ pages ∧ iv = .int .i64 k ∧ wrong = .int .i64 0 ∧ Hid (Fr Nob w wr)) (fun _ _ _ _ _ _ _ iv _ _ _ => pages - (intOf iv).toNat)
  case atStart => exact ⟨0, by omega, rfl, rfl, Fr.refl _ _⟩
  case round =>
    obtain ⟨k, hk, rfl, rfl, hF⟩ := hrel
    by_cases hlt : k < pages
    · have hfb := H.out.fr hF.out (fun h => h)
      have c1 := Blk.cell hfb 1
      have fp := Blk.lt hfb
      simp only [List.getElem?_toArray, List.getElem?_cons_zero, List.getElem?_cons_succ] at c1
      have hrd := pgRead8_any (at0 + 8 * k) hfb (HD.out.new hF.out) HDead.out (by omega) (by omega)
      rw [show ((at0 + 8 * k : Nat) : Int) = (at0 : Int) + 8 * (k : Int) from by omega] at hrd
      have HRd := Lib.hid hrd
      have HCl := Lib.hid (HP.out.l512 k hlt)
      have u1 : IntKind.i64.wrap (8 * (k : Int)) = 8 * (k : Int) := by rw [IntKind.wrap_i64]; omega
      have u2 : IntKind.i64.wrap ((at0 : Int) + 8 * (k : Int)) = (at0 : Int) + 8 * (k : Int) := by rw [IntKind.wrap_i64]; omega
      have HPg := Lib.hid (HP.out.page k hlt)
      obtain ⟨b, hb⟩ : ∃ b, secN S.now (at0 + 8 * k) 8 = b := ⟨_, rfl⟩
      rw [hb] at HRd HCl HPg
      clear hrd hfb hb
      go_wp2_with fail
      refine HRd.out.mono ?_
      rintro e w1 ⟨g1, cp1, rfl, hb1, hg1, hf1⟩
      have HB1 := Lib.hid hb1
      have HF1 : Hid (Fr Nob w w1) := hF.out.trans hf1
      have HNo := Lib.hid (none_any _ cp1 _ w1 hb1 HCl.out)
      clear hb1 hf1 HRd hF
      rcases HPg.out with hall | ⟨hall, hok, hno, htu⟩
      · have HNo : Hid (Calls Tryz.prog 34 #[.slice (some ⟨g1, 0, none⟩) 512 cp1] w1 fun e w' => e = .returned (.bool true) ∧ Fr Nob w1 w') := by
          have := HNo.out
          rw [hall] at this
          exact this
        clear hall HPg
        go_wp2_with fail
        refine HNo.out.mono ?_
        rintro e w2 ⟨rfl, hf2⟩
        have HF2 : Hid (Fr Nob w w2) := HF1.out.trans hf2
        clear hf2
        go_wp2
        go_roundw
        case rel => exact ⟨k + 1, by omega, by go_num, rfl, HF2.out⟩
        case measure => simp [intOf]; omega
      · have HNo : Hid (Calls Tryz.prog 34 #[.slice (some ⟨g1, 0, none⟩) 512 cp1] w1 fun e w' => e = .returned (.bool false) ∧ Fr Nob w1 w') := by
          have := HNo.out
          rw [hall] at this
          exact this
        have HPs : Hid (∀ W, Fr Nob w1 W → Calls Tryz.prog 35 #[.slice (some ⟨g1, 0, none⟩) 512 cp1] W fun e w' => ∃ g, e = .returned (.tuple #[.agg #[.int .i64 k, .int .u64 (pgX b).lsn, .slice (some ⟨g, 32, none⟩) 480 480], .int .u64 0, .bool true]) ∧ Fr Nob W w') := by
          intro W hW
          refine (pgParse_any _ cp1 _ W (HB1.out.new hW) HCl.out).mono ?_
          rintro e w' ⟨g, rfl, _, _, _, hf⟩
          refine ⟨g, ?_, hf⟩
          rw [hno, htu, hok]; rfl
        clear hall hok hno htu HPg
        go_wp2_with fail
        refine HNo.out.mono ?_
        rintro e w2 ⟨rfl, hf2⟩
        have HF2 : Hid (Fr Nob w1 w2) := hf2
        clear hf2
        go_wp2_with fail
        refine (HPs.out w2 HF2.out).mono ?_
        rintro e w3 ⟨g3, rfl, hf3⟩
        have HF3 : Hid (Fr Nob w w3) := (HF1.out.trans HF2.out).trans hf3
        have HFa : Hid (Fr Nob w (w3.alloc (.cells #[.int .i64 k, .int .u64 (pgX b).lsn, .slice (some ⟨g3, 32, none⟩) 480 480] 40))) := HF3.out.alloc _
        clear hf3
        go_wp2
        go_roundw
        case rel => exact ⟨k + 1, by omega, by go_num, rfl, HFa.out⟩
        case measure => simp [intOf]; omega
    · obtain rfl : k = pages := by omega
      go_wp2
      try rw [Exit.noGoto_ret]
      go_ret
      exact ⟨rfl, hF.out⟩
end Go.Proofs.YtccmmnacejdeoaaGreatDoor

/-
  left: the lot that stands in the spare places, over any sectors that are.
-/
namespace Go.Proofs.YtccmmnacejdeoaaGreatDoor
set_option linter.unusedSimpArgs false
set_option linter.unusedVariables false
open Go.RowKit

def lfB (now : List (List UInt8)) (sp i : Nat) : List UInt8 := secN now (sp + 1 + 8 * i) 8
def lfT (h : List UInt8) : Nat := getN ((h.drop 16).take 8)
def lfN (h : List UInt8) : Nat := getN ((h.drop 8).take 8)
def lfW0 (h : List UInt8) : Bool := decide (lfN h ≤ 8) && (lotB (lfT h) (lfN h) == h)
/-- The greatest number that is noted. -/
def lfTurn (now : List (List UInt8)) (sp t0 : Nat) (h : List UInt8) : Nat → Nat
  | 0 => if lfW0 h = true then lfT h else t0
  | k + 1 => if pgOk (lfB now sp k) = true then max (lfTurn now sp t0 h k) (pgTurn (lfB now sp k)) else lfTurn now sp t0 h k
/-- Is the lot whole? -/
def lfWh (now : List (List UInt8)) (sp pages : Nat) (h : List UInt8) : Nat → Bool
  | 0 => lfW0 h
  | k + 1 => if k < lfN h then lfWh now sp pages h k && pgOk (lfB now sp k) && decide (pgTurn (lfB now sp k) = lfT h) && decide ((pgX (lfB now sp k)).no < pages) else lfWh now sp pages h k
def lfL (now : List (List UInt8)) (sp m : Nat) : List PgV := (List.range m).map fun i => pgX (lfB now sp i)
def lfRes (now : List (List UInt8)) (sp pages : Nat) (h : List UInt8) : List PgV := if lfWh now sp pages h 8 = true then lfL now sp (lfN h) else []
theorem lfL_succ (now : List (List UInt8)) (sp m : Nat) : lfL now sp (m + 1) = lfL now sp m ++ [pgX (lfB now sp m)] := by
  unfold lfL
  rw [List.range_succ, List.map_append]; rfl
theorem getN_le (l : List UInt8) (h : l.length ≤ 8) : getN l < 18446744073709551616 := by
  have := getN_lt l
  have h2 : 256 ^ l.length ≤ 256 ^ 8 := Nat.pow_le_pow_right (by decide) h
  omega
theorem lfWh_w0 {now : List (List UInt8)} {sp pages : Nat} {h : List UInt8} : ∀ k, lfWh now sp pages h k = true → lfW0 h = true
  | 0, hk => hk
  | k + 1, hk => by
    unfold lfWh at hk
    split at hk
    · simp only [Bool.and_eq_true] at hk
      exact lfWh_w0 k hk.1.1.1
    · exact lfWh_w0 k hk
def pgCells (xs : List (PgV × Value)) : List Value := xs.flatMap fun x => [.int .i64 x.1.no, .int .u64 x.1.lsn, x.2]
theorem pgCells_snoc (xs : List (PgV × Value)) (x : PgV × Value) : pgCells (xs ++ [x]) = pgCells xs ++ [.int .i64 x.1.no, .int .u64 x.1.lsn, x.2] := by simp [pgCells]
theorem pgCells_at : ∀ (xs : List (PgV × Value)) (j : Nat) x, xs[j]? = some x → (pgCells xs)[j * 3]? = some (.int .i64 x.1.no) ∧ (pgCells xs)[j * 3 + 1]? = some (.int .u64 x.1.lsn) ∧ (pgCells xs)[j * 3 + 2]? = some x.2
  | [], j, x, h => by simp at h
  | y :: l, 0, x, h => by
    simp only [List.getElem?_cons_zero, Option.some.injEq] at h
    subst h
    exact ⟨rfl, rfl, rfl⟩
  | y :: l, j + 1, x, h => by
    have := pgCells_at l j x (by simpa using h)
    have e : pgCells (y :: l) = .int .i64 y.1.no :: .int .u64 y.1.lsn :: y.2 :: pgCells l := rfl
    rw [e]
    refine ⟨?_, ?_, ?_⟩
    · rw [show (j + 1) * 3 = j * 3 + 1 + 1 + 1 from by omega]; simpa using this.1
    · rw [show (j + 1) * 3 + 1 = j * 3 + 1 + 1 + 1 + 1 from by omega]; simpa using this.2.1
    · rw [show (j + 1) * 3 + 2 = j * 3 + 2 + 1 + 1 + 1 from by omega]; simpa using this.2.2
theorem addr_add0 (g j : Nat) : (⟨g, 0, none⟩ : Addr).add j = ⟨g, j, none⟩ := by
  unfold Addr.add
  split
  · rename_i h; subst h; rfl
  · simp
theorem info_Page : (Tryz.prog.info? 40).map (fun i => (i.zero, i.size, i.bytes)) = some (some (.agg #[.int .i64 0, .int .u64 0, .slice none 0 0]), 3, 40) := by kernel_rfl
/-- The pages that were gathered. -/
structure LfRow (B : Nat) (wr : World) (v : Value) (l : List PgV) (xs : List (PgV × Value)) : Prop where
  own : wr.ownsRow B 40 3 v xs.length (pgCells xs)
  eq : xs.map (·.1) = l
  cells : ∀ x ∈ xs, PCell (fun b => b < B ∨ some b = v.ownBlock) wr x.1 x.2
theorem LfRow.fr {B : Nat} {w w' : World} {v : Value} {l : List PgV} {xs : List (PgV × Value)} {F : Nat → Prop} (h : LfRow B w v l xs) (hf : Fr F w w') (hF : ∀ b, F b → b < B) : LfRow B w' v l xs :=
  ⟨own_fr h.own hf (fun g hg hb => by have := h.own.lt g hg; have := hF g hb; omega), h.eq, fun x hx => (h.cells x hx).fr hf (fun b _ hb => .inl (hF b hb))⟩
theorem LfRow.pgs {B : Nat} {w : World} {v : Value} {l : List PgV} {xs : List (PgV × Value)} (h : LfRow B w v l xs) : ∃ A c, v = .slice A xs.length c ∧ PgsIn (fun b => b < B) w A xs := by
  by_cases h0 : 0 < xs.length
  · obtain ⟨g, cap, rfl, hgb, hgl⟩ := h.own.form h0
    refine ⟨some ⟨g, 0, none⟩, cap, rfl, fun _ => ⟨g, rfl, by show ¬ g < B; omega, fun j x hx => ?_⟩⟩
    obtain ⟨a1, a2, a3⟩ := pgCells_at xs j x hx
    have hc := h.own.cells (g := g) rfl
    have k1 := hc _ _ a1
    have k2 := hc _ _ a2
    have k3 := hc _ _ a3
    rw [addr_add0] at k1 k2 k3
    exact ⟨k1, k2, k3, (h.cells x (List.mem_of_getElem? hx)).less (fun b _ hb => .inl hb)⟩
  · obtain rfl : xs = [] := List.eq_nil_of_length_eq_zero (by omega)
    rcases h.own.2 with ⟨rfl, _⟩ | ⟨g, cap, _, rfl, _⟩
    · exact ⟨none, 0, rfl, fun h => absurd h (by simp)⟩
    · exact ⟨some ⟨g, 0, none⟩, cap, rfl, fun h => absurd h (by simp)⟩

set_option maxHeartbeats 6400000 in
set_option maxRecDepth 100000 in
theorem left_any {R : Nat → Prop} {w : World} {p d at0 pages t0 : Nat} {S : DS} {hb : List UInt8} (h : FileAt w p d at0 pages t0) (hp : ¬ R p) (hd : DiskOk R w d S) (hl : S.dead = false) (hat : at0 + 8 * pages + 80 ≤ S.now.length) (hh : S.now[at0 + 8 * pages]? = some hb) (ht0 : t0 < 18446744073709551616) (hpg : pages ≤ 5000) :
    Calls Tryz.prog 38 #[.pointer (some ⟨p, 0, none⟩)] w fun e w' => ∃ A c l, e = .returned (.tuple #[.slice A l.length c, .int .i64 0]) ∧ l.map (·.1) = lfRes S.now (at0 + 8 * pages) pages hb ∧ PgsIn (fun b => b < w.heap.size) w' A l ∧ FileAt w' p d at0 pages (lfTurn S.now (at0 + 8 * pages) t0 hb 8) ∧ Fr (fun b => b = p) w w' := by
  obtain ⟨i0, hi0, hz0, hz1, hz2⟩ := info_parts info_Page
  have hsm := hd.small
  have hp0 := h.lt
  have h64 := hd.len64 hh
  have hT := getN_le ((hb.drop 16).take 8) (by rw [List.length_take]; omega)
  have hN := getN_le ((hb.drop 8).take 8) (by rw [List.length_take]; omega)
  have HS64 : Hid (∀ (j : Nat) s, S.now[j]? = some s → s.length = 64) := fun j s hs => hd.len64 (i := j) hs
  have H := Lib.hid h
  have HD := Lib.hid hd
  have HDead := Lib.hid hl
  obtain ⟨sp, hsp⟩ : ∃ sp, at0 + 8 * pages = sp := ⟨_, rfl⟩
  rw [hsp] at hh ⊢
  have HH := Lib.hid hh
  have HSp := Lib.hid hsp
  have HSpare : Hid (∀ W, Fr (fun b => b = p) w W → ∀ t, FileAt W p d at0 pages t → Calls Tryz.prog 63 #[.pointer (some ⟨p, 0, none⟩)] W fun e w' => e = .returned (.int .i64 sp) ∧ Fr Nob W w') := by
    intro W hW t ht
    have := spare_any ht (by omega) (by omega)
    rwa [hsp] at this
  have HRd0 : Hid (∀ W, Fr Nob w W → Calls Tryz.prog 57 #[.pointer (some ⟨d, 0, none⟩), .int .i64 sp] W fun e w' => e = .returned (.tuple #[.slice (some ⟨W.heap.size, 0, none⟩) 64 64, .int .i64 0]) ∧ Row64 w' W.heap.size hb ∧ Fr Nob W w') :=
    fun W hW => Read_good sp hb (HD.out.new hW) HDead.out HH.out
  have hfT : lfT hb = getN ((hb.drop 16).take 8) := rfl
  have hfN : lfN hb = getN ((hb.drop 8).take 8) := rfl
  rw [← hfT] at hT
  rw [← hfN] at hN
  clear h hd hl hh hsp hfT hfN
  go_enter Tryz.func38, Tryz.ntmps38
  go_wp2
  have hS : Fr Nob w w.drew := (Fr.refl _ w).drew
  refine Rg.begin (Fr Nob w) [] (by kernel_rfl) ?_
  refine Rg.op 0 (some 17) hS (v := ?v0a) (hy := fun wz hwz => ?h0a) (h := ?_)
  case h0a => (go_simp; try with_reducible rfl)
  refine Rg.op 1 (some 18) hS (v := ?v1a) (hy := fun wz hwz => ?h1a) (h := ?_)
  case h1a => (go_simp; try with_reducible rfl)
  refine Rg.op 2 (some 19) hS (v := ?v2a) (hy := fun wz hwz => ?h2a) (h := ?_)
  case h2a => (go_simp; try with_reducible rfl)
  refine Rg.op 3 (some 20) hS (v := ?v3a) (hy := fun wz hwz => ?h3a) (h := ?_)
  case h3a => (have hb := H.out.fr hwz (fun h => h); have cc := Blk.cell hb 0; have hpp := Blk.lt hb; simp only [List.getElem?_toArray, List.getElem?_cons_zero, List.getElem?_cons_succ] at cc; clear hb; go_simp; try with_reducible rfl)
  refine Rg.op 4 (some 21) hS (v := ?v4a) (hy := fun wz hwz => ?h4a) (h := ?_)
  case h4a => (go_simp; try with_reducible rfl)
  refine Rg.call 5 (some 22) (hrun := ?h5a) (hcall := HSpare.out _ (hS.mono (fun _ _ h => h.elim)) _ (H.out.fr hS (fun h => h))) (h := ?_)
  case h5a => (go_simp)
  rintro e w1 ⟨rfl, hf1⟩
  have hS1 : Fr Nob w w1 := hS.trans hf1
  clear hf1
  refine ⟨_, ?a5a, rfl, ?b5a, (fun _ => hS1), ?_⟩
  case b5a => (simp only [Act.put, List.setIfInBounds_toArray, List.set_cons_zero, List.set_cons_succ]; rfl)
  refine Rg.call 6 (some 23) (hrun := ?h6a) (hcall := HRd0.out _ hS1) (h := ?_)
  case h6a => (go_simp)
  rintro e w2 ⟨rfl, hr2, hf2⟩
  have hS2 : Fr Nob w w2 := hS1.trans hf2
  have hg2 : w.heap.size ≤ w1.heap.size := hS1.size
  have HR2 := Lib.hid hr2
  clear hf2 hr2
  obtain ⟨gh, hgh⟩ : ∃ g, w1.heap.size = g := ⟨_, rfl⟩
  rw [hgh] at HR2 hg2 ⊢
  clear hgh
  refine ⟨_, ?a6a, rfl, ?b6a, (fun _ => hS2), ?_⟩
  case b6a => (simp only [Act.put, List.setIfInBounds_toArray, List.set_cons_zero, List.set_cons_succ]; rfl)
  refine Rg.op 7 (some 16) hS2 (v := ?v7a) (hy := fun wz hwz => ?h7a) (h := ?_)
  case h7a => (go_simp; try with_reducible rfl)
  refine Rg.op 8 (some 24) hS2 (v := ?v8a) (hy := fun wz hwz => ?h8a) (h := ?_)
  case h8a => (go_simp; try with_reducible rfl)
  refine Rg.op 9 (some 25) hS2 (v := ?v9a) (hy := fun wz hwz => ?h9a) (h := ?_)
  case h9a => (go_simp; try with_reducible rfl)
  refine Rg.op 10 (some 4) hS2 (v := ?v10a) (hy := fun wz hwz => ?h10a) (h := ?_)
  case h10a => (go_simp; try with_reducible rfl)
  refine Rg.op 11 (some 5) hS2 (v := ?v11a) (hy := fun wz hwz => ?h11a) (h := ?_)
  case h11a => (go_simp; try with_reducible rfl)
  refine Rg.done _ (h := ?_)
  have HB2 : Hid (BytesIn w2 (some ⟨gh, 0, none⟩) hb) := bytesIn_of HR2.out
  have HG : Hid (∀ (W : World) o m cc, Fr Nob w2 W → o + m ≤ 64 → 0 < m → Calls Tryz.prog 59 #[.slice (some ⟨gh, o, none⟩) m cc] W fun e w' => e = .returned (.int .u64 (getN ((hb.drop o).take m))) ∧ W = w') := by
    intro W o m cc hW ho hm0
    have hbb := bytesIn_cut (HB2.out.new hW) o m 64 (by rw [h64]; omega) (by omega)
    have hm : ((hb.drop o).take m).length = m := by rw [List.length_take, List.length_drop]; omega
    have hcut : cutA gh 0 o 64 = ⟨gh, o, none⟩ := by unfold cutA; rw [if_neg (by omega), Nat.zero_add]
    rw [hcut] at hbb
    have := pgGet_any (some ⟨gh, o, none⟩) cc ((hb.drop o).take m) W hbb (by omega)
    rwa [hm] at this
  have HGT : Hid (∀ (W : World) cc, Fr Nob w2 W → Calls Tryz.prog 59 #[.slice (some ⟨gh, 16, none⟩) 8 cc] W fun e w' => e = .returned (.int .u64 (lfT hb)) ∧ W = w') := fun W cc hW => HG.out W 16 8 cc hW (by omega) (by omega)
  have HGN : Hid (∀ (W : World) cc, Fr Nob w2 W → Calls Tryz.prog 59 #[.slice (some ⟨gh, 8, none⟩) 8 cc] W fun e w' => e = .returned (.int .u64 (lfN hb)) ∧ W = w') := fun W cc hW => HG.out W 8 8 cc hW (by omega) (by omega)
  have hW0 : lfW0 hb = (decide (lfN hb ≤ 8) && (lotB (lfT hb) (lfN hb) == hb)) := rfl
  have HW0 := Lib.hid hW0
  obtain ⟨T, hTe⟩ : ∃ T, lfT hb = T := ⟨_, rfl⟩
  obtain ⟨n, hNe⟩ : ∃ n, lfN hb = n := ⟨_, rfl⟩
  rw [hTe] at HGT HW0 hT
  rw [hNe] at HGN HW0 hN
  have HT := Lib.hid hTe
  have HN := Lib.hid hNe
  clear HG hTe hNe hW0 HR2
  have HS2 := Lib.hid hS2
  go_wp2
  have hS3 : Fr Nob w2 w2.drew := (Fr.refl _ w2).drew
  refine Rg.begin (Fr Nob w2) [] (by kernel_rfl) ?_
  refine Rg.op 0 (some 29) hS3 (v := ?v0b) (hy := fun wz hwz => ?h0b) (h := ?_)
  case h0b => (go_simp; try with_reducible rfl)
  refine Rg.op 1 (some 30) hS3 (v := ?v1b) (hy := fun wz hwz => ?h1b) (h := ?_)
  case h1b => (go_simp; try with_reducible rfl)
  refine Rg.op 3 (some 32) hS3 (v := ?v3b) (hy := fun wz hwz => ?h3b) (h := ?_)
  case h3b => (go_simp; try with_reducible rfl)
  refine Rg.op 4 (some 33) hS3 (v := ?v4b) (hy := fun wz hwz => ?h4b) (h := ?_)
  case h4b => (go_simp; try with_reducible rfl)
  refine Rg.call 2 (some 31) (hrun := ?h2b) (hcall := HGT.out _ 48 hS3) (h := ?_)
  case h2b => (go_simp)
  rintro e wz ⟨rfl, rfl⟩
  refine ⟨_, ?a2b, rfl, ?b2b, (fun _ => hS3), ?_⟩
  case b2b => (simp only [Act.put, List.setIfInBounds_toArray, List.set_cons_zero, List.set_cons_succ]; rfl)
  refine Rg.call 5 (some 34) (hrun := ?h5b) (hcall := HGN.out _ 56 hS3) (h := ?_)
  case h5b => (go_simp)
  rintro e wz ⟨rfl, rfl⟩
  refine ⟨_, ?a5b, rfl, ?b5b, (fun _ => hS3), ?_⟩
  case b5b => (simp only [Act.put, List.setIfInBounds_toArray, List.set_cons_zero, List.set_cons_succ]; rfl)
  refine Rg.op 6 (some 6) hS3 (v := ?v6b) (hy := fun wz hwz => ?h6b) (h := ?_)
  case h6b => (go_simp; try with_reducible rfl)
  refine Rg.op 7 (some 7) hS3 (v := ?v7b) (hy := fun wz hwz => ?h7b) (h := ?_)
  case h7b => (go_simp; try with_reducible rfl)
  refine Rg.done _ (h := ?_)
  have HS3 : Hid (Fr Nob w w2.drew) := HS2.out.drew
  have HB3 : Hid (BytesIn w2.drew (some ⟨gh, 0, none⟩) hb) := HB2.out.new hS3
  obtain ⟨w3, hw3⟩ : ∃ W, w2.drew = W := ⟨_, rfl⟩
  rw [hw3] at HS3 HB3 ⊢
  clear hw3 hS3 hS2 HS2 HB2 HGT HGN hS hS1
  go_upto_region 5 with fail
  go_cut [8] (fun s8 wx => s8 = .bool (lfW0 hb) ∧ Hid (Fr Nob w wx))
  case first =>
    by_cases hn8 : n ≤ 8
    · have hcv : IntKind.i64.wrap (n : Int) = (n : Int) := by rw [IntKind.wrap_i64]; omega
      have hcn : (n : Int) ≤ 8 := by omega
      have HLot := Lib.hid (lot_any T n w3 hT (by omega))
      have HWe : Hid (lfW0 hb = (lotB T n == hb)) := by show _ = _; rw [HW0.out, decide_eq_true hn8]; rfl
      go_wp2_with fail
      refine HLot.out.mono ?_
      rintro e w4 ⟨rfl, hb4, hf4⟩
      have hEq := pgEqual_any (some ⟨w3.heap.size, 0, none⟩) (some ⟨gh, 0, none⟩) 64 64 (lotB T n) hb w4 (bytesIn_of hb4) (HB3.out.new hf4)
      rw [lotB_length, h64] at hEq
      have HEq := Lib.hid hEq
      have HF4 : Hid (Fr Nob w w4) := HS3.out.trans hf4
      clear hb4 hf4 hEq
      go_wp2_with fail
      refine HEq.out.mono ?_
      rintro e w5 ⟨rfl, rfl⟩
      go_wp2
      go_meet
      case rel => exact ⟨by rw [HWe.out], HF4⟩
    · have hcn : ¬ (n : Int) ≤ 8 := by omega
      have HWe : Hid (lfW0 hb = false) := by show _ = _; rw [HW0.out, decide_eq_false hn8]; rfl
      go_wp2
      go_meet
      case rel => exact ⟨by rw [HWe.out], HS3⟩
  case rest =>
  obtain ⟨rfl, hc⟩ := hcut
  have HF0 := Lib.hid hc
  clear hc HS3 HB3
  go_upto_if 45 with fail
  go_cut [8] (fun s8 wx => s8 = .bool (lfW0 hb) ∧ Hid (Fr (fun b => b = p) w wx) ∧ Hid (FileAt wx p d at0 pages (lfTurn S.now sp t0 hb 0)))
  case first =>
    have hfb := H.out.fr HF0.out (fun h => h)
    have c3 := Blk.cell hfb 3
    have f3 := Blk.frozen hfb 3
    have fp := Blk.lt hfb
    simp only [List.getElem?_toArray, List.getElem?_cons_zero, List.getElem?_cons_succ] at c3
    have HFb := Lib.hid hfb
    clear hfb
    cases hw0 : lfW0 hb with
    | true =>
      have HW : Hid (lfTurn S.now sp t0 hb 0 = T) := by show _ = _; unfold lfTurn; rw [if_pos hw0, HT.out]
      have HWb := Lib.hid hw0
      clear hw0
      go_wp2
      go_meet
      case rel =>
        refine ⟨by first | rfl | rw [HWb.out], Fr.setCell (F := fun b => b = p) (HF0.out.mono (fun _ _ h => h.elim)) (p := ⟨p, 3, none⟩) (.inr rfl) _, ?_⟩
        rw [HW.out]
        exact HFb.out.set_ 3 _
    | false =>
      have HW : Hid (lfTurn S.now sp t0 hb 0 = t0) := by show _ = _; unfold lfTurn; rw [if_neg (by rw [hw0]; decide)]
      have HWb := Lib.hid hw0
      clear hw0
      go_wp2
      go_meet
      case rel => exact ⟨by first | rfl | rw [HWb.out], HF0.out.mono (fun _ _ h => h.elim), by rw [HW.out]; exact HFb.out⟩
  case rest =>
  obtain ⟨rfl, hF1, hA1⟩ := hcut
  have HF1 := Lib.hid hF1.out
  have HA1 := Lib.hid hA1.out
  clear hF1 hA1 HF0
  have HRow0 : Hid (LfRow w.heap.size wc (.slice none 0 0) (lfL S.now sp 0) []) := ⟨World.ownsRow_nil _ _ _ _, rfl, fun x hx => by simp at hx⟩
  obtain ⟨B, hB⟩ : ∃ B, w.heap.size = B := ⟨_, rfl⟩
  have HB := Lib.hid hB
  rw [hB] at HRow0 hp0
  have HRlt : Hid (∀ b, R b → b < B) := fun b hb => by rw [← hB]; exact HD.out.lt hb
  have HRp : Hid (∀ b, R b → ¬ b = p) := fun b hb e => hp (e ▸ hb)
  clear hB
  go_wp2
  go_loopw [8, 9, 10, 11, 12, 13, 14, 15, 50] (fun s8 s9 _ _ _ _ _ _ iv wr => ∃ (k : Nat) (xs : List (PgV × Value)), k ≤ 8 ∧ iv = .int .i64 k ∧ s8 = .bool (lfWh S.now sp pages hb k) ∧ Hid (LfRow B wr s9 (lfL S.now sp (min n k)) xs) ∧ Hid (FileAt wr p d at0 pages (lfTurn S.now sp t0 hb k)) ∧ Hid (Fr (fun b => b = p) w wr)) (fun _ _ _ _ _ _ _ _ iv _ => 8 - (intOf iv).toNat)
  case atStart => exact ⟨0, [], by omega, rfl, rfl, by rw [Nat.min_zero]; exact HRow0.out, HA1.out, HF1.out⟩
  case round =>
    clear HRow0 HA1 HF1
    obtain ⟨k, xs, hk, rfl, rfl, hRow, hA, hF⟩ := hrel
    by_cases hlt : k < 8
    · have hsz := hF.out.size
      have HSp1 := Lib.hid (HSpare.out wr hF.out _ hA.out)
      have u1 : IntKind.i64.wrap ((sp : Int) + 1) = (sp : Int) + 1 := by have := HSp.out; rw [IntKind.wrap_i64]; omega
      have u2 : IntKind.i64.wrap (8 * (k : Int)) = 8 * (k : Int) := by rw [IntKind.wrap_i64]; omega
      have u3 : IntKind.i64.wrap ((sp : Int) + 1 + 8 * (k : Int)) = (sp : Int) + 1 + 8 * (k : Int) := by have := HSp.out; rw [IntKind.wrap_i64]; omega
      have HDw : Hid (DiskOk R wr d S) := HD.out.fr hF.out HRp.out
      have HRd : Hid (∀ W, Fr Nob wr W → Calls Tryz.prog 33 #[.pointer (some ⟨p, 0, none⟩), .int .i64 ((sp : Int) + 1 + 8 * (k : Int))] W fun e w' => ∃ g c, e = .returned (.tuple #[.slice (some ⟨g, 0, none⟩) 512 c, .int .i64 0]) ∧ Bsl w' (some ⟨g, 0, none⟩) c (lfB S.now sp k) ∧ W.heap.size ≤ g ∧ Fr Nob W w') := by
        intro W hW
        have := HSp.out
        have hrd := pgRead8_any (sp + 1 + 8 * k) (hA.out.fr hW (fun h => h)) (HDw.out.new hW) HDead.out (by omega) (by omega)
        rwa [show ((sp + 1 + 8 * k : Nat) : Int) = (sp : Int) + 1 + 8 * (k : Int) from by omega] at hrd
      go_wp2_with fail
      refine HSp1.out.mono ?_
      rintro e w1 ⟨rfl, hf1⟩
      have HF1 := Lib.hid hf1
      clear hf1 HSp1
      go_wp2_with fail
      refine (HRd.out w1 HF1.out).mono ?_
      rintro e w2 ⟨g2, c2, rfl, hb2, hg2, hf2⟩
      have hlb : (lfB S.now sp k).length = 512 := by have := HSp.out; unfold lfB; rw [secN_length HS64.out _ 8 (by omega)]
      have HPs := Lib.hid (pgParse_any _ c2 _ w2 hb2 hlb)
      have HF2 : Hid (Fr Nob wr w2) := HF1.out.trans hf2
      have htk := getN_le (((lfB S.now sp k).drop 16).take 8) (by rw [List.length_take]; omega)
      have hno := getN_four (((lfB S.now sp k).drop 4).take 4) (by rw [List.length_take, List.length_drop]; omega)
      have hls := getN_le (((lfB S.now sp k).drop 8).take 8) (by rw [List.length_take]; omega)
      have HLd : Hid ((pgX (lfB S.now sp k)).d.length = 480) := by show ((lfB S.now sp k).drop 32).length = 480; rw [List.length_drop, hlb]
      clear hb2 hg2 hf2 HRd HF1 hlb
      go_wp2_with fail
      refine HPs.out.mono ?_
      rintro e w3 ⟨g3, rfl, hb3, hg3, hg3l, hf3⟩
      have HF3 : Hid (Fr Nob wr w3) := HF2.out.trans hf3
      have HF2s : Hid (wr.heap.size ≤ g3) := Nat.le_trans HF2.out.size hg3
      have hg3b : B ≤ g3 := by have := HB.out; have := hF.out.size; have := HF2.out.size; omega
      obtain ⟨xk, hxk⟩ : ∃ x, pgX (lfB S.now sp k) = x := ⟨_, rfl⟩
      obtain ⟨tk, htke⟩ : ∃ x, pgTurn (lfB S.now sp k) = x := ⟨_, rfl⟩
      rw [show getN (((lfB S.now sp k).drop 16).take 8) = tk from htke] at htk
      rw [show getN (((lfB S.now sp k).drop 4).take 4) = xk.no from by rw [← hxk]; rfl] at hno
      rw [show getN (((lfB S.now sp k).drop 8).take 8) = xk.lsn from by rw [← hxk]; rfl] at hls
      have HB3 : Hid (BytesIn w3 (some ⟨g3, 32, none⟩) xk.d) := by rw [← hxk]; exact hb3
      rw [hxk] at HLd
      rw [hxk, htke]
      have HXk := Lib.hid hxk
      have HTk := Lib.hid htke
      clear hb3 hf3 hg3 HPs HF2 hxk htke
      obtain ⟨⟨no, lsn, dd⟩, hxx⟩ : ∃ x, xk = x := ⟨_, rfl⟩
      subst hxx
      dsimp only at hno hls HLd HB3 ⊢
      obtain ⟨tn, htn⟩ : ∃ x, lfTurn S.now sp t0 hb k = x := ⟨_, rfl⟩
      have HTn := Lib.hid htn
      rw [htn] at hA
      obtain ⟨wh, hwh⟩ : ∃ x, lfWh S.now sp pages hb k = x := ⟨_, rfl⟩
      have HWh := Lib.hid hwh
      rw [hwh]
      have hA3 : FileAt w3 p d at0 pages tn := hA.out.fr HF3.out (fun h => h)
      have HA3 := Lib.hid hA3
      have HOlt : Hid (∀ g, Value.ownBlock u9 = some g → g < wr.heap.size) := fun g hg => (hRow.out.own.lt g hg).2
      have hg3r : wr.heap.size ≤ g3 := by have := HF2s.out; omega
      have hxl : xs.length = min n k := by have := congrArg List.length hRow.out.eq; rw [List.length_map] at this; rw [this]; unfold lfL; rw [List.length_map, List.length_range]
      have HR3 : Hid (LfRow B w3 u9 _ xs) := hRow.out.fr HF3.out (fun b h => h.elim)
      have hp3 : p < w3.heap.size := hA3.lt
      have HFw3 : Hid (Fr (fun b => b = p) w w3) := hF.out.trans (HF3.out.mono (fun _ _ h => h.elim))
      have ucv : IntKind.u64.wrap (k : Int) = (k : Int) := by rw [IntKind.wrap_u64]; omega
      clear htn hwh hA hRow hF hsz HF3 HDw hA3
      have HWn : Hid (lfWh S.now sp pages hb (k + 1) = if k < n then (wh && pgOk (lfB S.now sp k) && decide (tk = T) && decide (no < pages)) else wh) := by
        show _ = _
        conv => lhs; unfold lfWh
        rw [HN.out, HWh.out, HTk.out, HT.out, HXk.out]
      have HTn' : Hid (lfTurn S.now sp t0 hb (k + 1) = if pgOk (lfB S.now sp k) = true then max tn tk else tn) := by
        show _ = _
        conv => lhs; unfold lfTurn
        rw [HTn.out, HTk.out]
      have c3 := Blk.cell HA3.out 3
      have f3 := Blk.frozen HA3.out 3
      simp only [List.getElem?_toArray, List.getElem?_cons_zero, List.getElem?_cons_succ] at c3
      have hB3 : B ≤ w3.heap.size := by have := HB.out; have := HFw3.out.size; omega
      have HXK := Lib.hid HXk.out
      clear HWh HTn HT
      cases hok : pgOk (lfB S.now sp k) with
      | true =>
        rw [hok] at HWn HTn'
        have HOk := Lib.hid hok
        clear hok
        have hfx : Fr (fun b => b = p) w3 ((w3.setCell ⟨p, 3, none⟩ (.int .u64 (max (tn : Int) (tk : Int)))).alloc (.cells #[.int .i64 no, .int .u64 lsn, .slice (some ⟨g3, 32, none⟩) 480 480] 40)) := ((Fr.refl (fun b => b = p) w3).setCell (p := ⟨p, 3, none⟩) (.inr rfl) _).alloc _
        have hax : FileAt ((w3.setCell ⟨p, 3, none⟩ (.int .u64 (max (tn : Int) (tk : Int)))).alloc (.cells #[.int .i64 no, .int .u64 lsn, .slice (some ⟨g3, 32, none⟩) 480 480] 40)) p d at0 pages (max tn tk) := by
          have := (HA3.out.set_ 3 (.int .u64 (max (tn : Int) (tk : Int)))).alloc (.cells #[.int .i64 no, .int .u64 lsn, .slice (some ⟨g3, 32, none⟩) 480 480] 40)
          show Blk _ _ _ _
          rw [show ((max tn tk : Nat) : Int) = max (tn : Int) (tk : Int) from by omega]
          exact this
        have hbx : Blk ((w3.setCell ⟨p, 3, none⟩ (.int .u64 (max (tn : Int) (tk : Int)))).alloc (.cells #[.int .i64 no, .int .u64 lsn, .slice (some ⟨g3, 32, none⟩) 480 480] 40)) w3.heap.size 40 #[.int .i64 no, .int .u64 lsn, .slice (some ⟨g3, 32, none⟩) 480 480] := by have := Blk.new (w3.setCell ⟨p, 3, none⟩ (.int .u64 (max (tn : Int) (tk : Int)))) 40 #[.int .i64 no, .int .u64 lsn, .slice (some ⟨g3, 32, none⟩) 480 480]; rwa [show (w3.setCell ⟨p, 3, none⟩ (.int .u64 (max (tn : Int) (tk : Int)))).heap.size = w3.heap.size from by simp [World.setCell]] at this
        rw [if_pos rfl] at HTn'
        have hpc : PCell (fun b => b < B ∨ some b = Value.ownBlock u9) ((w3.setCell ⟨p, 3, none⟩ (.int .u64 (max (tn : Int) (tk : Int)))).alloc (.cells #[.int .i64 no, .int .u64 lsn, .slice (some ⟨g3, 32, none⟩) 480 480] 40)) ⟨no, lsn, dd⟩ (.slice (some ⟨g3, 32, none⟩) 480 480) := ⟨g3, 32, 480, rfl, ⟨HB3.out.fr hfx (fun a ha h => by injection ha with ha; subst ha; dsimp only at h; omega), by rw [HLd.out]; omega, fun a ha => by injection ha with ha; subst ha; exact Nat.lt_of_lt_of_le hg3l hfx.size⟩, fun h => by rcases h with h | h; omega; (have := HOlt.out g3 h.symm; omega)⟩
        have HFx := Lib.hid hfx
        have HAx := Lib.hid hax
        have HBx := Lib.hid hbx
        have HPc := Lib.hid hpc
        have HRx := Lib.hid (HR3.out.fr hfx (fun b h => by subst h; exact hp0))
        clear hfx hax hbx hpc HA3 HR3
        by_cases hkn : k < n
        · have hkn2 : ¬ (k : Int) ≥ (n : Int) := by omega
          have hkn3 : ¬ (n : Int) ≤ (k : Int) := by omega
          rw [if_pos hkn] at HWn
          obtain ⟨wa, hwa⟩ : ∃ W, ((w3.setCell ⟨p, 3, none⟩ (.int .u64 (max (tn : Int) (tk : Int)))).alloc (.cells #[.int .i64 no, .int .u64 lsn, .slice (some ⟨g3, 32, none⟩) 480 480] 40)) = W := ⟨_, rfl⟩
          rw [hwa] at HFx HAx HBx HPc HRx
          have hsa : w3.heap.size < wa.heap.size := HBx.out.lt
          have hkk : min n k = k := by omega
          have hkk2 : min n (k + 1) = k + 1 := by omega
          rw [hkk] at HRx hxl
          have HNw : Hid (∀ j u, ([.int .i64 no, .int .u64 lsn, .slice (some ⟨g3, 32, none⟩) 480 480] : List Value)[j]? = some u → (wa.alloc (.cells #[.int .i64 no, .int .u64 lsn, .slice (some ⟨g3, 32, none⟩) 480 480] 40)).drew.cell? ((⟨wa.heap.size, 0, none⟩ : Addr).add j) = some u) := fun j u hu => World.news_of_block (Blk.new wa 40 #[.int .i64 no, .int .u64 lsn, .slice (some ⟨g3, 32, none⟩) 480 480]) j u (by simpa using hu)
          have HRa : Hid (LfRow B (wa.alloc (.cells #[.int .i64 no, .int .u64 lsn, .slice (some ⟨g3, 32, none⟩) 480 480] 40)).drew u9 (lfL S.now sp k) xs) := HRx.out.fr ((Fr.refl Nob wa).alloc _ |>.drew) (fun b h => h.elim)
          have HFa : Hid (Fr (fun b => b = p) w (wa.alloc (.cells #[.int .i64 no, .int .u64 lsn, .slice (some ⟨g3, 32, none⟩) 480 480] 40)).drew) := ((HFw3.out.trans HFx.out).alloc _).drew
          have HAa : Hid (FileAt (wa.alloc (.cells #[.int .i64 no, .int .u64 lsn, .slice (some ⟨g3, 32, none⟩) 480 480] 40)).drew p d at0 pages _) := (HAx.out.alloc _).drew
          have HPa : Hid (PCell (fun b => b < B ∨ some b = Value.ownBlock u9) (wa.alloc (.cells #[.int .i64 no, .int .u64 lsn, .slice (some ⟨g3, 32, none⟩) 480 480] 40)).drew ⟨no, lsn, dd⟩ (.slice (some ⟨g3, 32, none⟩) 480 480)) := HPc.out.fr ((Fr.refl Nob wa).alloc _ |>.drew) (fun b _ h => h.elim)
          have hza : (wa.alloc (.cells #[.int .i64 no, .int .u64 lsn, .slice (some ⟨g3, 32, none⟩) 480 480] 40)).drew.heap.size = wa.heap.size + 1 := World.size_alloc ..
          have c0a := Blk.cell HBx.out 0
          have c1a := Blk.cell HBx.out 1
          have c2a := Blk.cell HBx.out 2
          have cpa := Blk.cell HAx.out 2
          have lpa := HAx.out.lt
          simp only [List.getElem?_toArray, List.getElem?_cons_zero, List.getElem?_cons_succ] at c0a c1a c2a cpa
          clear HFx HRx HPc HFw3
          cases wh with
          | false =>
            go_wp2
            try rw [hwa]
            clear hwa
            have hSa : Fr Nob wa wa.drew := (Fr.refl _ wa).drew
            refine Rg.begin' (Fr Nob wa) [] (by kernel_rfl) ?_
            refine Rg.op 0 (some 87) hSa (v := ?v0twf) (hy := fun wz hwz => ?h0twf) (h := ?_)
            case h0twf => (go_simp; try with_reducible rfl)
            refine Rg.op 1 (some 88) hSa (v := ?v1twf) (hy := fun wz hwz => ?h1twf) (h := ?_)
            case h1twf => (go_simp; try with_reducible rfl)
            refine Rg.pass 2 (some 89) hSa (h := ?_)
            refine Rg.op 3 (some 90) hSa (v := ?v3twf) (hy := fun wz hwz => ?h3twf) (h := ?_)
            case h3twf => (go_simp; try with_reducible rfl)
            refine Rg.op 4 (some 91) hSa (v := ?v4twf) (hy := fun wz hwz => ?h4twf) (h := ?_)
            case h4twf => (go_simp; try with_reducible rfl)
            refine Rg.pass 5 (some 92) hSa (h := ?_)
            refine Rg.pass 6 (some 93) hSa (h := ?_)
            refine Rg.pass 7 (some 94) hSa (h := ?_)
            refine Rg.op 8 (some 95) hSa (v := ?v8twf) (hy := fun wz hwz => ?h8twf) (h := ?_)
            case h8twf => (go_simp; try with_reducible rfl)
            refine Rg.op 9 (some 96) hSa (v := ?v9twf) (hy := fun wz hwz => ?h9twf) (h := ?_)
            case h9twf => (go_simp; try with_reducible rfl)
            refine Rg.pass 10 (some 97) hSa (h := ?_)
            refine Rg.pass 11 (some 98) hSa (h := ?_)
            refine Rg.pass 12 (some 99) hSa (h := ?_)
            refine Rg.pass 13 (some 100) hSa (h := ?_)
            refine Rg.pass 14 (some 101) hSa (h := ?_)
            refine Rg.pass 15 (some 102) hSa (h := ?_)
            refine Rg.pass 16 (some 103) hSa (h := ?_)
            refine Rg.op 17 (some 104) hSa (v := ?v17twf) (hy := fun wz hwz => ?h17twf) (h := ?_)
            case h17twf => (go_simp; try with_reducible rfl)
            refine Rg.op 18 (some 8) hSa (v := ?v18twf) (hy := fun wz hwz => ?h18twf) (h := ?_)
            case h18twf => (go_simp; try with_reducible rfl)
            refine Rg.done _ (h := ?_)
            clear hSa
            go_wp2_with (at_builtin; go_must (refine wpList_append_own_at _ rfl (.tmp 105) (.tmp 107) 104 rfl B 40 i0 (.agg #[.int .i64 0, .int .u64 0, .slice none 0 0]) 3 40 Tryz.underlying104 hi0 hz0 hz1 hz2 rfl (by decide) u9 xs.length (pgCells xs) rfl HRa.out.own ⟨wa.heap.size, 0, none⟩ 1 1 [.int .i64 no, .int .u64 lsn, .slice (some ⟨g3, 32, none⟩) 480 480] rfl rfl HNw.out (by simp [Value.oneCell']) (by unfold maxLen; omega) (by omega) (by omega) ?_); intro v7 w7 hown7 hg7 hn7 hat7; have HO7 := Lib.hid hown7; have HG7 := Lib.hid hg7; have HA7 := Lib.hid hat7; clear hown7 hg7 hn7 hat7; trace "appended")
            have HF7 : Hid (Fr (fun b => b = p) w w7) := Fr.grown HFa.out HG7.out (fun r hr => .inl (by have := HRa.out.own.lt r hr; have := HB.out; omega))
            have hf8 : Fr (fun b => some b = Value.ownBlock u9) (wa.alloc (.cells #[.int .i64 no, .int .u64 lsn, .slice (some ⟨g3, 32, none⟩) 480 480] 40)).drew w7 := Fr.grown (Fr.refl _ _) HG7.out (fun r hr => .inr hr.symm)
            have hsub : ∀ b, b < (wa.alloc (.cells #[.int .i64 no, .int .u64 lsn, .slice (some ⟨g3, 32, none⟩) 480 480] 40)).drew.heap.size → (b < B ∨ some b = Value.ownBlock u9 ∨ some b = Value.ownBlock v7) → (b < B ∨ some b = Value.ownBlock u9) := fun b hbl hb => by
              rcases hb with hb | hb | hb
              · exact .inl hb
              · exact .inr hb
              · rcases HA7.out with e | e
                · exact .inr (by rw [← e]; exact hb)
                · rw [e] at hb; injection hb with hb; omega
            have HR7 : Hid (LfRow B w7 v7 (lfL S.now sp (k + 1)) (xs ++ [(⟨no, lsn, dd⟩, .slice (some ⟨g3, 32, none⟩) 480 480)])) := by
              refine ⟨by rw [List.length_append, pgCells_snoc]; exact HO7.out, by rw [List.map_append, HRa.out.eq, lfL_succ, HXK.out]; rfl, fun x hx => ?_⟩
              rcases List.mem_append.1 hx with hx | hx
              · exact (((HRa.out.cells x hx).less hsub).fr hf8 (fun b _ hb => .inr (.inl hb))).less (fun b _ hb => hb.elim .inl (fun h => .inr (.inr h)))
              · rw [List.mem_singleton] at hx; subst hx; exact ((HPa.out.less hsub).fr hf8 (fun b _ hb => .inr (.inl hb))).less (fun b _ hb => hb.elim .inl (fun h => .inr (.inr h)))
            have HAe : Hid (FileAt w7 p d at0 pages (lfTurn S.now sp t0 hb (k + 1))) := by rw [HTn'.out]; exact HAa.out.grown HG7.out (fun h => by have := HRa.out.own.lt p h.symm; omega)
            clear HO7 HG7 HA7 hf8 hsub
            go_roundw
            case rel => exact ⟨k + 1, _, by omega, by go_num, by rw [HWn.out]; simp, by rw [hkk2]; exact HR7.out, HAe.out, HF7.out⟩
            case measure => simp [intOf]; omega
          | true =>
            by_cases heq : tk = T
            · subst heq
              go_wp2
              try rw [hwa]
              clear hwa
              have hSa : Fr Nob wa wa.drew := (Fr.refl _ wa).drew
              refine Rg.begin' (Fr Nob wa) [] (by kernel_rfl) ?_
              refine Rg.op 0 (some 87) hSa (v := ?v0twt) (hy := fun wz hwz => ?h0twt) (h := ?_)
              case h0twt => (go_simp; try with_reducible rfl)
              refine Rg.op 1 (some 88) hSa (v := ?v1twt) (hy := fun wz hwz => ?h1twt) (h := ?_)
              case h1twt => (go_simp; try with_reducible rfl)
              refine Rg.op 2 (some 89) hSa (v := ?v2twt) (hy := fun wz hwz => ?h2twt) (h := ?_)
              case h2twt => (go_simp; try with_reducible rfl)
              refine Rg.op 3 (some 90) hSa (v := ?v3twt) (hy := fun wz hwz => ?h3twt) (h := ?_)
              case h3twt => (go_simp; try with_reducible rfl)
              refine Rg.op 4 (some 91) hSa (v := ?v4twt) (hy := fun wz hwz => ?h4twt) (h := ?_)
              case h4twt => (go_simp; try with_reducible rfl)
              refine Rg.op 5 (some 92) hSa (v := ?v5twt) (hy := fun wz hwz => ?h5twt) (h := ?_)
              case h5twt => (go_simp; try with_reducible rfl)
              refine Rg.op 6 (some 93) hSa (v := ?v6twt) (hy := fun wz hwz => ?h6twt) (h := ?_)
              case h6twt => (go_simp; try with_reducible rfl)
              refine Rg.op 7 (some 94) hSa (v := (.bool true)) (hy := fun wz hwz => ?h7twt) (h := ?_)
              case h7twt => (have y : ((tk : Int) == (tk : Int)) = true := (by rw [beq_iff_eq]); go_simp; try with_reducible rfl)
              refine Rg.op 8 (some 95) hSa (v := ?v8twt) (hy := fun wz hwz => ?h8twt) (h := ?_)
              case h8twt => (go_simp; try with_reducible rfl)
              refine Rg.op 9 (some 96) hSa (v := ?v9twt) (hy := fun wz hwz => ?h9twt) (h := ?_)
              case h9twt => (go_simp; try with_reducible rfl)
              refine Rg.op 10 (some 97) hSa (v := ?v10twt) (hy := fun wz hwz => ?h10twt) (h := ?_)
              case h10twt => (go_simp; try with_reducible rfl)
              refine Rg.op 11 (some 98) hSa (v := ?v11twt) (hy := fun wz hwz => ?h11twt) (h := ?_)
              case h11twt => (have hb := HBx.out.fr hwz (fun h => h); have cc := Blk.cell hb 0; have hpp := Blk.lt hb; simp only [List.getElem?_toArray, List.getElem?_cons_zero, List.getElem?_cons_succ] at cc; clear hb; go_simp; try with_reducible rfl)
              refine Rg.op 12 (some 99) hSa (v := ?v12twt) (hy := fun wz hwz => ?h12twt) (h := ?_)
              case h12twt => (go_simp; try with_reducible rfl)
              refine Rg.op 13 (some 100) hSa (v := ?v13twt) (hy := fun wz hwz => ?h13twt) (h := ?_)
              case h13twt => (go_simp; try with_reducible rfl)
              refine Rg.op 14 (some 101) hSa (v := ?v14twt) (hy := fun wz hwz => ?h14twt) (h := ?_)
              case h14twt => (go_simp; try with_reducible rfl)
              refine Rg.op 15 (some 102) hSa (v := ?v15twt) (hy := fun wz hwz => ?h15twt) (h := ?_)
              case h15twt => (have hb := HAx.out.fr hwz (fun h => h); have cc := Blk.cell hb 2; have hpp := Blk.lt hb; simp only [List.getElem?_toArray, List.getElem?_cons_zero, List.getElem?_cons_succ] at cc; clear hb; go_simp; try with_reducible rfl)
              refine Rg.op 16 (some 103) hSa (v := (.bool (decide (no < pages)))) (hy := fun wz hwz => ?h16twt) (h := ?_)
              case h16twt => (have y : decide ((no : Int) < (pages : Int)) = decide (no < pages) := (by rw [decide_eq_decide]; omega); go_simp; try with_reducible rfl)
              refine Rg.op 17 (some 104) hSa (v := ?v17twt) (hy := fun wz hwz => ?h17twt) (h := ?_)
              case h17twt => (go_simp; try with_reducible rfl)
              refine Rg.op 18 (some 8) hSa (v := ?v18twt) (hy := fun wz hwz => ?h18twt) (h := ?_)
              case h18twt => (go_simp; try with_reducible rfl)
              refine Rg.done _ (h := ?_)
              clear hSa
              go_wp2_with (at_builtin; go_must (refine wpList_append_own_at _ rfl (.tmp 105) (.tmp 107) 104 rfl B 40 i0 (.agg #[.int .i64 0, .int .u64 0, .slice none 0 0]) 3 40 Tryz.underlying104 hi0 hz0 hz1 hz2 rfl (by decide) u9 xs.length (pgCells xs) rfl HRa.out.own ⟨wa.heap.size, 0, none⟩ 1 1 [.int .i64 no, .int .u64 lsn, .slice (some ⟨g3, 32, none⟩) 480 480] rfl rfl HNw.out (by simp [Value.oneCell']) (by unfold maxLen; omega) (by omega) (by omega) ?_); intro v7 w7 hown7 hg7 hn7 hat7; have HO7 := Lib.hid hown7; have HG7 := Lib.hid hg7; have HA7 := Lib.hid hat7; clear hown7 hg7 hn7 hat7; trace "appended")
              have HF7 : Hid (Fr (fun b => b = p) w w7) := Fr.grown HFa.out HG7.out (fun r hr => .inl (by have := HRa.out.own.lt r hr; have := HB.out; omega))
              have hf8 : Fr (fun b => some b = Value.ownBlock u9) (wa.alloc (.cells #[.int .i64 no, .int .u64 lsn, .slice (some ⟨g3, 32, none⟩) 480 480] 40)).drew w7 := Fr.grown (Fr.refl _ _) HG7.out (fun r hr => .inr hr.symm)
              have hsub : ∀ b, b < (wa.alloc (.cells #[.int .i64 no, .int .u64 lsn, .slice (some ⟨g3, 32, none⟩) 480 480] 40)).drew.heap.size → (b < B ∨ some b = Value.ownBlock u9 ∨ some b = Value.ownBlock v7) → (b < B ∨ some b = Value.ownBlock u9) := fun b hbl hb => by
                rcases hb with hb | hb | hb
                · exact .inl hb
                · exact .inr hb
                · rcases HA7.out with e | e
                  · exact .inr (by rw [← e]; exact hb)
                  · rw [e] at hb; injection hb with hb; omega
              have HR7 : Hid (LfRow B w7 v7 (lfL S.now sp (k + 1)) (xs ++ [(⟨no, lsn, dd⟩, .slice (some ⟨g3, 32, none⟩) 480 480)])) := by
                refine ⟨by rw [List.length_append, pgCells_snoc]; exact HO7.out, by rw [List.map_append, HRa.out.eq, lfL_succ, HXK.out]; rfl, fun x hx => ?_⟩
                rcases List.mem_append.1 hx with hx | hx
                · exact (((HRa.out.cells x hx).less hsub).fr hf8 (fun b _ hb => .inr (.inl hb))).less (fun b _ hb => hb.elim .inl (fun h => .inr (.inr h)))
                · rw [List.mem_singleton] at hx; subst hx; exact ((HPa.out.less hsub).fr hf8 (fun b _ hb => .inr (.inl hb))).less (fun b _ hb => hb.elim .inl (fun h => .inr (.inr h)))
              have HAe : Hid (FileAt w7 p d at0 pages (lfTurn S.now sp t0 hb (k + 1))) := by rw [HTn'.out]; exact HAa.out.grown HG7.out (fun h => by have := HRa.out.own.lt p h.symm; omega)
              clear HO7 HG7 HA7 hf8 hsub
              go_roundw
              case rel => exact ⟨k + 1, _, by omega, by go_num, by rw [HWn.out]; simp, by rw [hkk2]; exact HR7.out, HAe.out, HF7.out⟩
              case measure => simp [intOf]; omega
            · go_wp2
              try rw [hwa]
              clear hwa
              have hSa : Fr Nob wa wa.drew := (Fr.refl _ wa).drew
              refine Rg.begin' (Fr Nob wa) [] (by kernel_rfl) ?_
              refine Rg.op 0 (some 87) hSa (v := ?v0twn) (hy := fun wz hwz => ?h0twn) (h := ?_)
              case h0twn => (go_simp; try with_reducible rfl)
              refine Rg.op 1 (some 88) hSa (v := ?v1twn) (hy := fun wz hwz => ?h1twn) (h := ?_)
              case h1twn => (go_simp; try with_reducible rfl)
              refine Rg.op 2 (some 89) hSa (v := ?v2twn) (hy := fun wz hwz => ?h2twn) (h := ?_)
              case h2twn => (go_simp; try with_reducible rfl)
              refine Rg.op 3 (some 90) hSa (v := ?v3twn) (hy := fun wz hwz => ?h3twn) (h := ?_)
              case h3twn => (go_simp; try with_reducible rfl)
              refine Rg.op 4 (some 91) hSa (v := ?v4twn) (hy := fun wz hwz => ?h4twn) (h := ?_)
              case h4twn => (go_simp; try with_reducible rfl)
              refine Rg.op 5 (some 92) hSa (v := ?v5twn) (hy := fun wz hwz => ?h5twn) (h := ?_)
              case h5twn => (go_simp; try with_reducible rfl)
              refine Rg.op 6 (some 93) hSa (v := ?v6twn) (hy := fun wz hwz => ?h6twn) (h := ?_)
              case h6twn => (go_simp; try with_reducible rfl)
              refine Rg.op 7 (some 94) hSa (v := (.bool false)) (hy := fun wz hwz => ?h7twn) (h := ?_)
              case h7twn => (have y : ((tk : Int) == (T : Int)) = false := (by rw [beq_eq_false_iff_ne]; omega); go_simp; try with_reducible rfl)
              refine Rg.op 8 (some 95) hSa (v := ?v8twn) (hy := fun wz hwz => ?h8twn) (h := ?_)
              case h8twn => (go_simp; try with_reducible rfl)
              refine Rg.op 9 (some 96) hSa (v := ?v9twn) (hy := fun wz hwz => ?h9twn) (h := ?_)
              case h9twn => (go_simp; try with_reducible rfl)
              refine Rg.pass 10 (some 97) hSa (h := ?_)
              refine Rg.pass 11 (some 98) hSa (h := ?_)
              refine Rg.pass 12 (some 99) hSa (h := ?_)
              refine Rg.pass 13 (some 100) hSa (h := ?_)
              refine Rg.pass 14 (some 101) hSa (h := ?_)
              refine Rg.pass 15 (some 102) hSa (h := ?_)
              refine Rg.pass 16 (some 103) hSa (h := ?_)
              refine Rg.op 17 (some 104) hSa (v := ?v17twn) (hy := fun wz hwz => ?h17twn) (h := ?_)
              case h17twn => (go_simp; try with_reducible rfl)
              refine Rg.op 18 (some 8) hSa (v := ?v18twn) (hy := fun wz hwz => ?h18twn) (h := ?_)
              case h18twn => (go_simp; try with_reducible rfl)
              refine Rg.done _ (h := ?_)
              clear hSa
              go_wp2_with (at_builtin; go_must (refine wpList_append_own_at _ rfl (.tmp 105) (.tmp 107) 104 rfl B 40 i0 (.agg #[.int .i64 0, .int .u64 0, .slice none 0 0]) 3 40 Tryz.underlying104 hi0 hz0 hz1 hz2 rfl (by decide) u9 xs.length (pgCells xs) rfl HRa.out.own ⟨wa.heap.size, 0, none⟩ 1 1 [.int .i64 no, .int .u64 lsn, .slice (some ⟨g3, 32, none⟩) 480 480] rfl rfl HNw.out (by simp [Value.oneCell']) (by unfold maxLen; omega) (by omega) (by omega) ?_); intro v7 w7 hown7 hg7 hn7 hat7; have HO7 := Lib.hid hown7; have HG7 := Lib.hid hg7; have HA7 := Lib.hid hat7; clear hown7 hg7 hn7 hat7; trace "appended")
              have HF7 : Hid (Fr (fun b => b = p) w w7) := Fr.grown HFa.out HG7.out (fun r hr => .inl (by have := HRa.out.own.lt r hr; have := HB.out; omega))
              have hf8 : Fr (fun b => some b = Value.ownBlock u9) (wa.alloc (.cells #[.int .i64 no, .int .u64 lsn, .slice (some ⟨g3, 32, none⟩) 480 480] 40)).drew w7 := Fr.grown (Fr.refl _ _) HG7.out (fun r hr => .inr hr.symm)
              have hsub : ∀ b, b < (wa.alloc (.cells #[.int .i64 no, .int .u64 lsn, .slice (some ⟨g3, 32, none⟩) 480 480] 40)).drew.heap.size → (b < B ∨ some b = Value.ownBlock u9 ∨ some b = Value.ownBlock v7) → (b < B ∨ some b = Value.ownBlock u9) := fun b hbl hb => by
                rcases hb with hb | hb | hb
                · exact .inl hb
                · exact .inr hb
                · rcases HA7.out with e | e
                  · exact .inr (by rw [← e]; exact hb)
                  · rw [e] at hb; injection hb with hb; omega
              have HR7 : Hid (LfRow B w7 v7 (lfL S.now sp (k + 1)) (xs ++ [(⟨no, lsn, dd⟩, .slice (some ⟨g3, 32, none⟩) 480 480)])) := by
                refine ⟨by rw [List.length_append, pgCells_snoc]; exact HO7.out, by rw [List.map_append, HRa.out.eq, lfL_succ, HXK.out]; rfl, fun x hx => ?_⟩
                rcases List.mem_append.1 hx with hx | hx
                · exact (((HRa.out.cells x hx).less hsub).fr hf8 (fun b _ hb => .inr (.inl hb))).less (fun b _ hb => hb.elim .inl (fun h => .inr (.inr h)))
                · rw [List.mem_singleton] at hx; subst hx; exact ((HPa.out.less hsub).fr hf8 (fun b _ hb => .inr (.inl hb))).less (fun b _ hb => hb.elim .inl (fun h => .inr (.inr h)))
              have HAe : Hid (FileAt w7 p d at0 pages (lfTurn S.now sp t0 hb (k + 1))) := by rw [HTn'.out]; exact HAa.out.grown HG7.out (fun h => by have := HRa.out.own.lt p h.symm; omega)
              clear HO7 HG7 HA7 hf8 hsub
              go_roundw
              case rel => exact ⟨k + 1, _, by omega, by go_num, by rw [HWn.out]; simp; omega, by rw [hkk2]; exact HR7.out, HAe.out, HF7.out⟩
              case measure => simp [intOf]; omega
        · have hkn2 : (k : Int) ≥ (n : Int) := by omega
          have hkn3 : (n : Int) ≤ (k : Int) := by omega
          rw [if_neg hkn] at HWn
          have hkk : min n (k + 1) = min n k := by omega
          have HFE : Hid (Fr (fun b => b = p) w ((w3.setCell ⟨p, 3, none⟩ (.int .u64 (max (tn : Int) (tk : Int)))).alloc (.cells #[.int .i64 no, .int .u64 lsn, .slice (some ⟨g3, 32, none⟩) 480 480] 40))) := HFw3.out.trans HFx.out
          clear HFw3 HFx HBx HPc
          go_wp2
          go_roundw
          case rel => exact ⟨k + 1, xs, by omega, by go_num, by rw [HWn.out], by rw [hkk]; exact HRx.out, by rw [HTn'.out]; exact HAx.out, HFE.out⟩
          case measure => simp [intOf]; omega
      | false =>
        rw [hok] at HWn HTn'
        have HOk := Lib.hid hok
        clear hok
        have hfx : Fr (fun b => b = p) w3 (w3.alloc (.cells #[.int .i64 no, .int .u64 lsn, .slice (some ⟨g3, 32, none⟩) 480 480] 40)) := (Fr.refl (fun b => b = p) w3).alloc _
        have hax : FileAt (w3.alloc (.cells #[.int .i64 no, .int .u64 lsn, .slice (some ⟨g3, 32, none⟩) 480 480] 40)) p d at0 pages tn := HA3.out.alloc _
        have hbx : Blk (w3.alloc (.cells #[.int .i64 no, .int .u64 lsn, .slice (some ⟨g3, 32, none⟩) 480 480] 40)) w3.heap.size 40 #[.int .i64 no, .int .u64 lsn, .slice (some ⟨g3, 32, none⟩) 480 480] := Blk.new _ _ _
        rw [if_neg (by decide)] at HTn'
        have hpc : PCell (fun b => b < B ∨ some b = Value.ownBlock u9) (w3.alloc (.cells #[.int .i64 no, .int .u64 lsn, .slice (some ⟨g3, 32, none⟩) 480 480] 40)) ⟨no, lsn, dd⟩ (.slice (some ⟨g3, 32, none⟩) 480 480) := ⟨g3, 32, 480, rfl, ⟨HB3.out.fr hfx (fun a ha h => by injection ha with ha; subst ha; dsimp only at h; omega), by rw [HLd.out]; omega, fun a ha => by injection ha with ha; subst ha; exact Nat.lt_of_lt_of_le hg3l hfx.size⟩, fun h => by rcases h with h | h; omega; (have := HOlt.out g3 h.symm; omega)⟩
        have HFx := Lib.hid hfx
        have HAx := Lib.hid hax
        have HBx := Lib.hid hbx
        have HPc := Lib.hid hpc
        have HRx := Lib.hid (HR3.out.fr hfx (fun b h => by subst h; exact hp0))
        clear hfx hax hbx hpc HA3 HR3
        by_cases hkn : k < n
        · have hkn2 : ¬ (k : Int) ≥ (n : Int) := by omega
          have hkn3 : ¬ (n : Int) ≤ (k : Int) := by omega
          rw [if_pos hkn] at HWn
          obtain ⟨wa, hwa⟩ : ∃ W, (w3.alloc (.cells #[.int .i64 no, .int .u64 lsn, .slice (some ⟨g3, 32, none⟩) 480 480] 40)) = W := ⟨_, rfl⟩
          rw [hwa] at HFx HAx HBx HPc HRx
          have hsa : w3.heap.size < wa.heap.size := HBx.out.lt
          have hkk : min n k = k := by omega
          have hkk2 : min n (k + 1) = k + 1 := by omega
          rw [hkk] at HRx hxl
          have HNw : Hid (∀ j u, ([.int .i64 no, .int .u64 lsn, .slice (some ⟨g3, 32, none⟩) 480 480] : List Value)[j]? = some u → (wa.alloc (.cells #[.int .i64 no, .int .u64 lsn, .slice (some ⟨g3, 32, none⟩) 480 480] 40)).drew.cell? ((⟨wa.heap.size, 0, none⟩ : Addr).add j) = some u) := fun j u hu => World.news_of_block (Blk.new wa 40 #[.int .i64 no, .int .u64 lsn, .slice (some ⟨g3, 32, none⟩) 480 480]) j u (by simpa using hu)
          have HRa : Hid (LfRow B (wa.alloc (.cells #[.int .i64 no, .int .u64 lsn, .slice (some ⟨g3, 32, none⟩) 480 480] 40)).drew u9 (lfL S.now sp k) xs) := HRx.out.fr ((Fr.refl Nob wa).alloc _ |>.drew) (fun b h => h.elim)
          have HFa : Hid (Fr (fun b => b = p) w (wa.alloc (.cells #[.int .i64 no, .int .u64 lsn, .slice (some ⟨g3, 32, none⟩) 480 480] 40)).drew) := ((HFw3.out.trans HFx.out).alloc _).drew
          have HAa : Hid (FileAt (wa.alloc (.cells #[.int .i64 no, .int .u64 lsn, .slice (some ⟨g3, 32, none⟩) 480 480] 40)).drew p d at0 pages _) := (HAx.out.alloc _).drew
          have HPa : Hid (PCell (fun b => b < B ∨ some b = Value.ownBlock u9) (wa.alloc (.cells #[.int .i64 no, .int .u64 lsn, .slice (some ⟨g3, 32, none⟩) 480 480] 40)).drew ⟨no, lsn, dd⟩ (.slice (some ⟨g3, 32, none⟩) 480 480)) := HPc.out.fr ((Fr.refl Nob wa).alloc _ |>.drew) (fun b _ h => h.elim)
          have hza : (wa.alloc (.cells #[.int .i64 no, .int .u64 lsn, .slice (some ⟨g3, 32, none⟩) 480 480] 40)).drew.heap.size = wa.heap.size + 1 := World.size_alloc ..
          have c0a := Blk.cell HBx.out 0
          have c1a := Blk.cell HBx.out 1
          have c2a := Blk.cell HBx.out 2
          have cpa := Blk.cell HAx.out 2
          have lpa := HAx.out.lt
          simp only [List.getElem?_toArray, List.getElem?_cons_zero, List.getElem?_cons_succ] at c0a c1a c2a cpa
          clear HFx HRx HPc HFw3
          cases wh with
          | false =>
            go_wp2
            try rw [hwa]
            clear hwa
            have hSa : Fr Nob wa wa.drew := (Fr.refl _ wa).drew
            refine Rg.begin' (Fr Nob wa) [] (by kernel_rfl) ?_
            refine Rg.op 0 (some 87) hSa (v := ?v0fwf) (hy := fun wz hwz => ?h0fwf) (h := ?_)
            case h0fwf => (go_simp; try with_reducible rfl)
            refine Rg.op 1 (some 88) hSa (v := ?v1fwf) (hy := fun wz hwz => ?h1fwf) (h := ?_)
            case h1fwf => (go_simp; try with_reducible rfl)
            refine Rg.pass 2 (some 89) hSa (h := ?_)
            refine Rg.op 3 (some 90) hSa (v := ?v3fwf) (hy := fun wz hwz => ?h3fwf) (h := ?_)
            case h3fwf => (go_simp; try with_reducible rfl)
            refine Rg.op 4 (some 91) hSa (v := ?v4fwf) (hy := fun wz hwz => ?h4fwf) (h := ?_)
            case h4fwf => (go_simp; try with_reducible rfl)
            refine Rg.pass 5 (some 92) hSa (h := ?_)
            refine Rg.pass 6 (some 93) hSa (h := ?_)
            refine Rg.pass 7 (some 94) hSa (h := ?_)
            refine Rg.op 8 (some 95) hSa (v := ?v8fwf) (hy := fun wz hwz => ?h8fwf) (h := ?_)
            case h8fwf => (go_simp; try with_reducible rfl)
            refine Rg.op 9 (some 96) hSa (v := ?v9fwf) (hy := fun wz hwz => ?h9fwf) (h := ?_)
            case h9fwf => (go_simp; try with_reducible rfl)
            refine Rg.pass 10 (some 97) hSa (h := ?_)
            refine Rg.pass 11 (some 98) hSa (h := ?_)
            refine Rg.pass 12 (some 99) hSa (h := ?_)
            refine Rg.pass 13 (some 100) hSa (h := ?_)
            refine Rg.pass 14 (some 101) hSa (h := ?_)
            refine Rg.pass 15 (some 102) hSa (h := ?_)
            refine Rg.pass 16 (some 103) hSa (h := ?_)
            refine Rg.op 17 (some 104) hSa (v := ?v17fwf) (hy := fun wz hwz => ?h17fwf) (h := ?_)
            case h17fwf => (go_simp; try with_reducible rfl)
            refine Rg.op 18 (some 8) hSa (v := ?v18fwf) (hy := fun wz hwz => ?h18fwf) (h := ?_)
            case h18fwf => (go_simp; try with_reducible rfl)
            refine Rg.done _ (h := ?_)
            clear hSa
            go_wp2_with (at_builtin; go_must (refine wpList_append_own_at _ rfl (.tmp 105) (.tmp 107) 104 rfl B 40 i0 (.agg #[.int .i64 0, .int .u64 0, .slice none 0 0]) 3 40 Tryz.underlying104 hi0 hz0 hz1 hz2 rfl (by decide) u9 xs.length (pgCells xs) rfl HRa.out.own ⟨wa.heap.size, 0, none⟩ 1 1 [.int .i64 no, .int .u64 lsn, .slice (some ⟨g3, 32, none⟩) 480 480] rfl rfl HNw.out (by simp [Value.oneCell']) (by unfold maxLen; omega) (by omega) (by omega) ?_); intro v7 w7 hown7 hg7 hn7 hat7; have HO7 := Lib.hid hown7; have HG7 := Lib.hid hg7; have HA7 := Lib.hid hat7; clear hown7 hg7 hn7 hat7; trace "appended")
            have HF7 : Hid (Fr (fun b => b = p) w w7) := Fr.grown HFa.out HG7.out (fun r hr => .inl (by have := HRa.out.own.lt r hr; have := HB.out; omega))
            have hf8 : Fr (fun b => some b = Value.ownBlock u9) (wa.alloc (.cells #[.int .i64 no, .int .u64 lsn, .slice (some ⟨g3, 32, none⟩) 480 480] 40)).drew w7 := Fr.grown (Fr.refl _ _) HG7.out (fun r hr => .inr hr.symm)
            have hsub : ∀ b, b < (wa.alloc (.cells #[.int .i64 no, .int .u64 lsn, .slice (some ⟨g3, 32, none⟩) 480 480] 40)).drew.heap.size → (b < B ∨ some b = Value.ownBlock u9 ∨ some b = Value.ownBlock v7) → (b < B ∨ some b = Value.ownBlock u9) := fun b hbl hb => by
              rcases hb with hb | hb | hb
              · exact .inl hb
              · exact .inr hb
              · rcases HA7.out with e | e
                · exact .inr (by rw [← e]; exact hb)
                · rw [e] at hb; injection hb with hb; omega
            have HR7 : Hid (LfRow B w7 v7 (lfL S.now sp (k + 1)) (xs ++ [(⟨no, lsn, dd⟩, .slice (some ⟨g3, 32, none⟩) 480 480)])) := by
              refine ⟨by rw [List.length_append, pgCells_snoc]; exact HO7.out, by rw [List.map_append, HRa.out.eq, lfL_succ, HXK.out]; rfl, fun x hx => ?_⟩
              rcases List.mem_append.1 hx with hx | hx
              · exact (((HRa.out.cells x hx).less hsub).fr hf8 (fun b _ hb => .inr (.inl hb))).less (fun b _ hb => hb.elim .inl (fun h => .inr (.inr h)))
              · rw [List.mem_singleton] at hx; subst hx; exact ((HPa.out.less hsub).fr hf8 (fun b _ hb => .inr (.inl hb))).less (fun b _ hb => hb.elim .inl (fun h => .inr (.inr h)))
            have HAe : Hid (FileAt w7 p d at0 pages (lfTurn S.now sp t0 hb (k + 1))) := by rw [HTn'.out]; exact HAa.out.grown HG7.out (fun h => by have := HRa.out.own.lt p h.symm; omega)
            clear HO7 HG7 HA7 hf8 hsub
            go_roundw
            case rel => exact ⟨k + 1, _, by omega, by go_num, by rw [HWn.out]; simp, by rw [hkk2]; exact HR7.out, HAe.out, HF7.out⟩
            case measure => simp [intOf]; omega
          | true =>
            go_wp2
            try rw [hwa]
            clear hwa
            have hSa : Fr Nob wa wa.drew := (Fr.refl _ wa).drew
            refine Rg.begin' (Fr Nob wa) [] (by kernel_rfl) ?_
            refine Rg.op 0 (some 87) hSa (v := ?v0fwo) (hy := fun wz hwz => ?h0fwo) (h := ?_)
            case h0fwo => (go_simp; try with_reducible rfl)
            refine Rg.op 1 (some 88) hSa (v := ?v1fwo) (hy := fun wz hwz => ?h1fwo) (h := ?_)
            case h1fwo => (go_simp; try with_reducible rfl)
            refine Rg.op 2 (some 89) hSa (v := ?v2fwo) (hy := fun wz hwz => ?h2fwo) (h := ?_)
            case h2fwo => (go_simp; try with_reducible rfl)
            refine Rg.op 3 (some 90) hSa (v := ?v3fwo) (hy := fun wz hwz => ?h3fwo) (h := ?_)
            case h3fwo => (go_simp; try with_reducible rfl)
            refine Rg.op 4 (some 91) hSa (v := ?v4fwo) (hy := fun wz hwz => ?h4fwo) (h := ?_)
            case h4fwo => (go_simp; try with_reducible rfl)
            refine Rg.pass 5 (some 92) hSa (h := ?_)
            refine Rg.pass 6 (some 93) hSa (h := ?_)
            refine Rg.pass 7 (some 94) hSa (h := ?_)
            refine Rg.op 8 (some 95) hSa (v := ?v8fwo) (hy := fun wz hwz => ?h8fwo) (h := ?_)
            case h8fwo => (go_simp; try with_reducible rfl)
            refine Rg.op 9 (some 96) hSa (v := ?v9fwo) (hy := fun wz hwz => ?h9fwo) (h := ?_)
            case h9fwo => (go_simp; try with_reducible rfl)
            refine Rg.pass 10 (some 97) hSa (h := ?_)
            refine Rg.pass 11 (some 98) hSa (h := ?_)
            refine Rg.pass 12 (some 99) hSa (h := ?_)
            refine Rg.pass 13 (some 100) hSa (h := ?_)
            refine Rg.pass 14 (some 101) hSa (h := ?_)
            refine Rg.pass 15 (some 102) hSa (h := ?_)
            refine Rg.pass 16 (some 103) hSa (h := ?_)
            refine Rg.op 17 (some 104) hSa (v := ?v17fwo) (hy := fun wz hwz => ?h17fwo) (h := ?_)
            case h17fwo => (go_simp; try with_reducible rfl)
            refine Rg.op 18 (some 8) hSa (v := ?v18fwo) (hy := fun wz hwz => ?h18fwo) (h := ?_)
            case h18fwo => (go_simp; try with_reducible rfl)
            refine Rg.done _ (h := ?_)
            clear hSa
            go_wp2_with (at_builtin; go_must (refine wpList_append_own_at _ rfl (.tmp 105) (.tmp 107) 104 rfl B 40 i0 (.agg #[.int .i64 0, .int .u64 0, .slice none 0 0]) 3 40 Tryz.underlying104 hi0 hz0 hz1 hz2 rfl (by decide) u9 xs.length (pgCells xs) rfl HRa.out.own ⟨wa.heap.size, 0, none⟩ 1 1 [.int .i64 no, .int .u64 lsn, .slice (some ⟨g3, 32, none⟩) 480 480] rfl rfl HNw.out (by simp [Value.oneCell']) (by unfold maxLen; omega) (by omega) (by omega) ?_); intro v7 w7 hown7 hg7 hn7 hat7; have HO7 := Lib.hid hown7; have HG7 := Lib.hid hg7; have HA7 := Lib.hid hat7; clear hown7 hg7 hn7 hat7; trace "appended")
            have HF7 : Hid (Fr (fun b => b = p) w w7) := Fr.grown HFa.out HG7.out (fun r hr => .inl (by have := HRa.out.own.lt r hr; have := HB.out; omega))
            have hf8 : Fr (fun b => some b = Value.ownBlock u9) (wa.alloc (.cells #[.int .i64 no, .int .u64 lsn, .slice (some ⟨g3, 32, none⟩) 480 480] 40)).drew w7 := Fr.grown (Fr.refl _ _) HG7.out (fun r hr => .inr hr.symm)
            have hsub : ∀ b, b < (wa.alloc (.cells #[.int .i64 no, .int .u64 lsn, .slice (some ⟨g3, 32, none⟩) 480 480] 40)).drew.heap.size → (b < B ∨ some b = Value.ownBlock u9 ∨ some b = Value.ownBlock v7) → (b < B ∨ some b = Value.ownBlock u9) := fun b hbl hb => by
              rcases hb with hb | hb | hb
              · exact .inl hb
              · exact .inr hb
              · rcases HA7.out with e | e
                · exact .inr (by rw [← e]; exact hb)
                · rw [e] at hb; injection hb with hb; omega
            have HR7 : Hid (LfRow B w7 v7 (lfL S.now sp (k + 1)) (xs ++ [(⟨no, lsn, dd⟩, .slice (some ⟨g3, 32, none⟩) 480 480)])) := by
              refine ⟨by rw [List.length_append, pgCells_snoc]; exact HO7.out, by rw [List.map_append, HRa.out.eq, lfL_succ, HXK.out]; rfl, fun x hx => ?_⟩
              rcases List.mem_append.1 hx with hx | hx
              · exact (((HRa.out.cells x hx).less hsub).fr hf8 (fun b _ hb => .inr (.inl hb))).less (fun b _ hb => hb.elim .inl (fun h => .inr (.inr h)))
              · rw [List.mem_singleton] at hx; subst hx; exact ((HPa.out.less hsub).fr hf8 (fun b _ hb => .inr (.inl hb))).less (fun b _ hb => hb.elim .inl (fun h => .inr (.inr h)))
            have HAe : Hid (FileAt w7 p d at0 pages (lfTurn S.now sp t0 hb (k + 1))) := by rw [HTn'.out]; exact HAa.out.grown HG7.out (fun h => by have := HRa.out.own.lt p h.symm; omega)
            clear HO7 HG7 HA7 hf8 hsub
            go_roundw
            case rel => exact ⟨k + 1, _, by omega, by go_num, by rw [HWn.out]; simp, by rw [hkk2]; exact HR7.out, HAe.out, HF7.out⟩
            case measure => simp [intOf]; omega
        · have hkn2 : (k : Int) ≥ (n : Int) := by omega
          have hkn3 : (n : Int) ≤ (k : Int) := by omega
          rw [if_neg hkn] at HWn
          have hkk : min n (k + 1) = min n k := by omega
          have HFE : Hid (Fr (fun b => b = p) w (w3.alloc (.cells #[.int .i64 no, .int .u64 lsn, .slice (some ⟨g3, 32, none⟩) 480 480] 40))) := HFw3.out.trans HFx.out
          clear HFw3 HFx HBx HPc
          go_wp2
          go_roundw
          case rel => exact ⟨k + 1, xs, by omega, by go_num, by rw [HWn.out], by rw [hkk]; exact HRx.out, by rw [HTn'.out]; exact HAx.out, HFE.out⟩
          case measure => simp [intOf]; omega
    · obtain rfl : k = 8 := by omega
      have HBw := Lib.hid HB.out
      obtain ⟨wh, hwh⟩ : ∃ x, lfWh S.now sp pages hb 8 = x := ⟨_, rfl⟩
      have HWh := Lib.hid hwh
      rw [hwh]
      clear hwh
      cases wh with
      | true =>
        have hn8 : n ≤ 8 := by
          have := lfWh_w0 8 HWh.out
          rw [HW0.out] at this
          simp only [Bool.and_eq_true, decide_eq_true_eq] at this
          exact this.1
        have hmn : min n 8 = n := by omega
        rw [hmn] at hRow
        obtain ⟨A, c, hv, hpg2⟩ := hRow.out.pgs
        have HRw := Lib.hid hRow.out
        have HPg := Lib.hid hpg2
        subst hv
        clear hRow hpg2 hmn
        go_wp2
        go_ret2
        refine ⟨A, c, xs, rfl, ?_, by rw [HBw.out]; exact HPg.out, hA.out, hF.out⟩
        unfold lfRes
        rw [if_pos HWh.out, HRw.out.eq, HN.out]
      | false =>
        clear hRow
        go_wp2
        go_ret2
        refine ⟨none, 0, [], rfl, ?_, fun h => absurd h (by simp), hA.out, hF.out⟩
        unfold lfRes
        rw [if_neg (by rw [HWh.out]; decide)]; rfl
end Go.Proofs.YtccmmnacejdeoaaGreatDoor
