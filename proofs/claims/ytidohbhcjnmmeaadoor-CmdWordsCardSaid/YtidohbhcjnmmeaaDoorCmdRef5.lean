/-
  The reference's name of a command.
-/
import Derived.Test.YtidohbhcjnmmeaaDoorCmdRef4
namespace Go.Proofs.YtidohbhcjnmmeaaDoor
set_option linter.unusedSimpArgs false
set_option linter.unusedVariables false
open Go.RowKit

/-- The shapes in the reference's order. -/
def tblR : List Shp := [tbl[0], tbl[1], tbl[2], tbl[3], tbl[5], tbl[7], tbl[8], tbl[10], tbl[4], tbl[6], tbl[9], tbl[11], tbl[12], tbl[13], tbl[14], tbl[15], tbl[16], tbl[17], tbl[18], tbl[19], tbl[20], tbl[21], tbl[22], tbl[23]]
theorem tblR_length : tblR.length = 24 := rfl
theorem tblR_mem : ∀ x ∈ tblR, x ∈ tbl := by
  intro x hx
  simp only [tblR, List.mem_cons, List.not_mem_nil, or_false] at hx
  rcases hx with rfl | rfl | rfl | rfl | rfl | rfl | rfl | rfl | rfl | rfl | rfl | rfl | rfl | rfl | rfl | rfl | rfl | rfl | rfl | rfl | rfl | rfl | rfl | rfl <;> exact List.getElem_mem _
theorem tblR_find : ∀ x ∈ tblR, tbl.find? (fun y => decide (y.word = x.word)) = some x := by
  intro x hx
  simp only [tblR, List.mem_cons, List.not_mem_nil, or_false] at hx
  rcases hx with rfl | rfl | rfl | rfl | rfl | rfl | rfl | rfl | rfl | rfl | rfl | rfl | rfl | rfl | rfl | rfl | rfl | rfl | rfl | rfl | rfl | rfl | rfl | rfl <;> rfl
theorem tblR_row : (strs (tblR.map (·.word))).toArray = #[.string ⟨#[110, 111, 100, 101]⟩, .string ⟨#[109, 111, 118, 101]⟩, .string ⟨#[114, 101, 109, 110, 111, 100, 101]⟩, .string ⟨#[101, 100, 103, 101]⟩, .string ⟨#[114, 101, 109, 101, 100, 103, 101]⟩, .string ⟨#[99, 104, 97, 110, 103, 101]⟩, .string ⟨#[115, 112, 108, 105, 116]⟩, .string ⟨#[104, 101, 97, 108]⟩, .string ⟨#[110, 101, 119, 101, 100, 103, 101]⟩, .string ⟨#[110, 101, 119, 114, 101, 109]⟩, .string ⟨#[110, 101, 119, 115, 112, 108, 105, 116]⟩, .string ⟨#[110, 101, 119, 104, 101, 97, 108]⟩, .string ⟨#[98, 101, 103, 105, 110]⟩, .string ⟨#[99, 111, 109, 109, 105, 116]⟩, .string ⟨#[97, 98, 111, 114, 116]⟩, .string ⟨#[115, 97, 118, 101]⟩, .string ⟨#[98, 97, 99, 107]⟩, .string ⟨#[97, 116]⟩, .string ⟨#[114, 111, 117, 110, 100]⟩, .string ⟨#[114, 105, 110, 103, 115]⟩, .string ⟨#[119, 105, 110, 100, 111, 119]⟩, .string ⟨#[112, 108, 97, 110]⟩, .string ⟨#[99, 104, 101, 99, 107]⟩, .string ⟨#[99, 111, 117, 110, 116]⟩] := rfl
/-- Does a shape speak of such a command? -/
def matchT (c : Cm) (x : Shp) : Bool := decide (x.kind = c.kind ∧ x.op = c.op ∧ x.fresh = c.fresh)
def nameC (c : Cm) : List UInt8 := match tblR.find? (matchT c) with
  | some x => x.word
  | none => []
theorem find_take {α : Type} {p : α → Bool} : ∀ {l : List α} {k : Nat} (hk : k < l.length), (∀ x ∈ l.take k, p x = false) → p l[k] = true → l.find? p = some l[k]
  | [], _, hk, _, _ => absurd hk (by simp)
  | a :: l, 0, _, _, hm => by rw [List.find?_cons_of_pos (by simpa using hm)]; rfl
  | a :: l, k + 1, hk, h, hm => by
    have ha : p a = false := h a (by simp)
    rw [List.find?_cons_of_neg (by rw [ha]; decide)]
    have hkl : k < l.length := by simpa using hk
    have hm' : p (l[k]'hkl) = true := by simpa using hm
    rw [find_take (l := l) (k := k) hkl (fun x hx => h x (by simp [hx])) hm']
    simp
theorem tblR_take {c : Cm} {k : Nat} (hk : k < tblR.length) (h : ∀ x ∈ tblR.take k, matchT c x = false) (hm : matchT c tblR[k] = true) : nameC c = tblR[k].word := by
  unfold nameC
  rw [find_take hk h hm]

set_option maxHeartbeats 6400000 in
set_option maxRecDepth 100000 in
theorem name_any (c : Cm) (v : Value) (w : World) (hc : CmIn w c v) : Calls Tryd.prog 34 #[v] w fun e w' => e = .returned (.string (tx (nameC c))) ∧ Fr Nob w w' := by
  have qL := len_strs
  obtain ⟨A, m, rfl, hm, hpt⟩ := hc
  obtain ⟨T, hT⟩ : ∃ T, tx (nameC c) = T := ⟨_, rfl⟩
  rw [hT]
  have HTk : Hid (∀ k (hk : k < tblR.length), (∀ x ∈ tblR.take k, matchT c x = false) → matchT c tblR[k] = true → T = tx tblR[k].word) := fun k hk h hm => by rw [← hT, tblR_take hk h hm]
  have HTn : Hid ((∀ x ∈ tblR, matchT c x = false) → T = tx []) := fun h => by
    rw [← hT]
    unfold nameC
    rw [List.find?_eq_none.2 (fun x hx h' => by rw [h x hx] at h'; cases h')]
  have HMt : Hid (∀ x, matchT c x = decide (x.kind = c.kind ∧ x.op = c.op ∧ x.fresh = c.fresh)) := fun x => rfl
  obtain ⟨C, hC⟩ : ∃ C, c = C := ⟨_, rfl⟩
  rw [hC] at HTk HTn HMt ⊢
  obtain ⟨ck, co, ca, cb, cf, cl, ⟨p1, p2⟩, ⟨q1, q2⟩, cn⟩ := C
  obtain ⟨mt, hmt⟩ : ∃ f, matchT ⟨ck, co, ca, cb, cf, cl, (p1, p2), (q1, q2), cn⟩ = f := ⟨_, rfl⟩
  rw [hmt] at HTk HTn HMt
  unfold Cm.v
  dsimp only at HMt ⊢
  obtain ⟨M, hM⟩ : ∃ M, cl.length = M := ⟨_, rfl⟩
  rw [hM]
  clear hT hC hmt hM hpt hm
  have HbC : Hid (Blk ((w.alloc (.cells #[.int .i64 ck, .int .i64 co, .int .i64 ca, .int .i64 cb, .bool cf, .slice A M m, .int .i64 p1, .int .i64 p2, .int .i64 q1, .int .i64 q2, .int .i64 cn] 32)).alloc (.cells #[.string ⟨#[110, 111, 100, 101]⟩, .string ⟨#[109, 111, 118, 101]⟩, .string ⟨#[114, 101, 109, 110, 111, 100, 101]⟩, .string ⟨#[101, 100, 103, 101]⟩, .string ⟨#[114, 101, 109, 101, 100, 103, 101]⟩, .string ⟨#[99, 104, 97, 110, 103, 101]⟩, .string ⟨#[115, 112, 108, 105, 116]⟩, .string ⟨#[104, 101, 97, 108]⟩, .string ⟨#[110, 101, 119, 101, 100, 103, 101]⟩, .string ⟨#[110, 101, 119, 114, 101, 109]⟩, .string ⟨#[110, 101, 119, 115, 112, 108, 105, 116]⟩, .string ⟨#[110, 101, 119, 104, 101, 97, 108]⟩, .string ⟨#[98, 101, 103, 105, 110]⟩, .string ⟨#[99, 111, 109, 109, 105, 116]⟩, .string ⟨#[97, 98, 111, 114, 116]⟩, .string ⟨#[115, 97, 118, 101]⟩, .string ⟨#[98, 97, 99, 107]⟩, .string ⟨#[97, 116]⟩, .string ⟨#[114, 111, 117, 110, 100]⟩, .string ⟨#[114, 105, 110, 103, 115]⟩, .string ⟨#[119, 105, 110, 100, 111, 119]⟩, .string ⟨#[112, 108, 97, 110]⟩, .string ⟨#[99, 104, 101, 99, 107]⟩, .string ⟨#[99, 111, 117, 110, 116]⟩] 9)) w.heap.size 32 #[.int .i64 ck, .int .i64 co, .int .i64 ca, .int .i64 cb, .bool cf, .slice A M m, .int .i64 p1, .int .i64 p2, .int .i64 q1, .int .i64 q2, .int .i64 cn]) := (Blk.new w _ _).alloc _
  have HbN : Hid (Blk ((w.alloc (.cells #[.int .i64 ck, .int .i64 co, .int .i64 ca, .int .i64 cb, .bool cf, .slice A M m, .int .i64 p1, .int .i64 p2, .int .i64 q1, .int .i64 q2, .int .i64 cn] 32)).alloc (.cells #[.string ⟨#[110, 111, 100, 101]⟩, .string ⟨#[109, 111, 118, 101]⟩, .string ⟨#[114, 101, 109, 110, 111, 100, 101]⟩, .string ⟨#[101, 100, 103, 101]⟩, .string ⟨#[114, 101, 109, 101, 100, 103, 101]⟩, .string ⟨#[99, 104, 97, 110, 103, 101]⟩, .string ⟨#[115, 112, 108, 105, 116]⟩, .string ⟨#[104, 101, 97, 108]⟩, .string ⟨#[110, 101, 119, 101, 100, 103, 101]⟩, .string ⟨#[110, 101, 119, 114, 101, 109]⟩, .string ⟨#[110, 101, 119, 115, 112, 108, 105, 116]⟩, .string ⟨#[110, 101, 119, 104, 101, 97, 108]⟩, .string ⟨#[98, 101, 103, 105, 110]⟩, .string ⟨#[99, 111, 109, 109, 105, 116]⟩, .string ⟨#[97, 98, 111, 114, 116]⟩, .string ⟨#[115, 97, 118, 101]⟩, .string ⟨#[98, 97, 99, 107]⟩, .string ⟨#[97, 116]⟩, .string ⟨#[114, 111, 117, 110, 100]⟩, .string ⟨#[114, 105, 110, 103, 115]⟩, .string ⟨#[119, 105, 110, 100, 111, 119]⟩, .string ⟨#[112, 108, 97, 110]⟩, .string ⟨#[99, 104, 101, 99, 107]⟩, .string ⟨#[99, 111, 117, 110, 116]⟩] 9)) (w.heap.size + 1) 9 (strs (tblR.map (·.word))).toArray) := by
    have := Blk.new (w.alloc (.cells #[.int .i64 ck, .int .i64 co, .int .i64 ca, .int .i64 cb, .bool cf, .slice A M m, .int .i64 p1, .int .i64 p2, .int .i64 q1, .int .i64 q2, .int .i64 cn] 32)) 9 #[.string ⟨#[110, 111, 100, 101]⟩, .string ⟨#[109, 111, 118, 101]⟩, .string ⟨#[114, 101, 109, 110, 111, 100, 101]⟩, .string ⟨#[101, 100, 103, 101]⟩, .string ⟨#[114, 101, 109, 101, 100, 103, 101]⟩, .string ⟨#[99, 104, 97, 110, 103, 101]⟩, .string ⟨#[115, 112, 108, 105, 116]⟩, .string ⟨#[104, 101, 97, 108]⟩, .string ⟨#[110, 101, 119, 101, 100, 103, 101]⟩, .string ⟨#[110, 101, 119, 114, 101, 109]⟩, .string ⟨#[110, 101, 119, 115, 112, 108, 105, 116]⟩, .string ⟨#[110, 101, 119, 104, 101, 97, 108]⟩, .string ⟨#[98, 101, 103, 105, 110]⟩, .string ⟨#[99, 111, 109, 109, 105, 116]⟩, .string ⟨#[97, 98, 111, 114, 116]⟩, .string ⟨#[115, 97, 118, 101]⟩, .string ⟨#[98, 97, 99, 107]⟩, .string ⟨#[97, 116]⟩, .string ⟨#[114, 111, 117, 110, 100]⟩, .string ⟨#[114, 105, 110, 103, 115]⟩, .string ⟨#[119, 105, 110, 100, 111, 119]⟩, .string ⟨#[112, 108, 97, 110]⟩, .string ⟨#[99, 104, 101, 99, 107]⟩, .string ⟨#[99, 111, 117, 110, 116]⟩]
    rw [World.size_alloc] at this
    exact this
  have HF2 : Hid (Fr Nob w ((w.alloc (.cells #[.int .i64 ck, .int .i64 co, .int .i64 ca, .int .i64 cb, .bool cf, .slice A M m, .int .i64 p1, .int .i64 p2, .int .i64 q1, .int .i64 q2, .int .i64 cn] 32)).alloc (.cells #[.string ⟨#[110, 111, 100, 101]⟩, .string ⟨#[109, 111, 118, 101]⟩, .string ⟨#[114, 101, 109, 110, 111, 100, 101]⟩, .string ⟨#[101, 100, 103, 101]⟩, .string ⟨#[114, 101, 109, 101, 100, 103, 101]⟩, .string ⟨#[99, 104, 97, 110, 103, 101]⟩, .string ⟨#[115, 112, 108, 105, 116]⟩, .string ⟨#[104, 101, 97, 108]⟩, .string ⟨#[110, 101, 119, 101, 100, 103, 101]⟩, .string ⟨#[110, 101, 119, 114, 101, 109]⟩, .string ⟨#[110, 101, 119, 115, 112, 108, 105, 116]⟩, .string ⟨#[110, 101, 119, 104, 101, 97, 108]⟩, .string ⟨#[98, 101, 103, 105, 110]⟩, .string ⟨#[99, 111, 109, 109, 105, 116]⟩, .string ⟨#[97, 98, 111, 114, 116]⟩, .string ⟨#[115, 97, 118, 101]⟩, .string ⟨#[98, 97, 99, 107]⟩, .string ⟨#[97, 116]⟩, .string ⟨#[114, 111, 117, 110, 100]⟩, .string ⟨#[114, 105, 110, 103, 115]⟩, .string ⟨#[119, 105, 110, 100, 111, 119]⟩, .string ⟨#[112, 108, 97, 110]⟩, .string ⟨#[99, 104, 101, 99, 107]⟩, .string ⟨#[99, 111, 117, 110, 116]⟩] 9))) := ((Fr.refl _ _).alloc _).alloc _
  go_enter Tryd.func34, Tryd.ntmps34
  go_wp2
  go_loopw [4] (fun i wr => ∃ k : Nat, k ≤ 24 ∧ i = .int .i64 k ∧ Hid (∀ x ∈ tblR.take k, mt x = false) ∧ Hid (Fr Nob ((w.alloc (.cells #[.int .i64 ck, .int .i64 co, .int .i64 ca, .int .i64 cb, .bool cf, .slice A M m, .int .i64 p1, .int .i64 p2, .int .i64 q1, .int .i64 q2, .int .i64 cn] 32)).alloc (.cells #[.string ⟨#[110, 111, 100, 101]⟩, .string ⟨#[109, 111, 118, 101]⟩, .string ⟨#[114, 101, 109, 110, 111, 100, 101]⟩, .string ⟨#[101, 100, 103, 101]⟩, .string ⟨#[114, 101, 109, 101, 100, 103, 101]⟩, .string ⟨#[99, 104, 97, 110, 103, 101]⟩, .string ⟨#[115, 112, 108, 105, 116]⟩, .string ⟨#[104, 101, 97, 108]⟩, .string ⟨#[110, 101, 119, 101, 100, 103, 101]⟩, .string ⟨#[110, 101, 119, 114, 101, 109]⟩, .string ⟨#[110, 101, 119, 115, 112, 108, 105, 116]⟩, .string ⟨#[110, 101, 119, 104, 101, 97, 108]⟩, .string ⟨#[98, 101, 103, 105, 110]⟩, .string ⟨#[99, 111, 109, 109, 105, 116]⟩, .string ⟨#[97, 98, 111, 114, 116]⟩, .string ⟨#[115, 97, 118, 101]⟩, .string ⟨#[98, 97, 99, 107]⟩, .string ⟨#[97, 116]⟩, .string ⟨#[114, 111, 117, 110, 100]⟩, .string ⟨#[114, 105, 110, 103, 115]⟩, .string ⟨#[119, 105, 110, 100, 111, 119]⟩, .string ⟨#[112, 108, 97, 110]⟩, .string ⟨#[99, 104, 101, 99, 107]⟩, .string ⟨#[99, 111, 117, 110, 116]⟩] 9)) wr)) (fun i _ => 24 - (intOf i).toNat)
  case atStart => exact ⟨0, Nat.zero_le _, rfl, fun x hx => by simp at hx, Fr.refl _ _⟩
  case round =>
    obtain ⟨k, hk, rfl, hn, hF⟩ := hrel
    have hbc := HbC.out.fr hF.out (fun h => h)
    have d0 := hbc.cell 0
    have d1 := hbc.cell 1
    have d4 := hbc.cell 4
    have hzc := hbc.lt
    have hbn := HbN.out.fr hF.out (fun h => h)
    have hzn := hbn.lt
    simp only [List.getElem?_toArray, List.getElem?_cons_zero, List.getElem?_cons_succ] at d0 d1 d4
    have Hbc := Lib.hid hbc
    by_cases hlt : k < 24
    · have hkl : k < tblR.length := hlt
      have c0 := hbn.cell k
      rw [List.getElem?_toArray, strs_get, List.getElem?_map, List.getElem?_eq_getElem hkl] at c0
      simp only [Option.map_some] at c0
      have hfd := tblR_find _ (List.getElem_mem hkl)
      have htk : tblR.take (k + 1) = tblR.take k ++ [tblR[k]] := (List.take_append_getElem hkl).symm
      have HYes : Hid (mt tblR[k] = true → T = tx tblR[k].word) := HTk.out k hkl hn.out
      obtain ⟨x, hx⟩ : ∃ x, tblR[k] = x := ⟨_, rfl⟩
      rw [hx] at c0 hfd htk HYes
      have HTk2 := Lib.hid htk
      have HMx := Lib.hid (HMt.out x)
      have HFm := Lib.hid (forms_any x.word wr)
      rw [hfd] at HFm
      obtain ⟨lo, hlo⟩ : ∃ lo, x.lo = lo := ⟨_, rfl⟩
      obtain ⟨hi, hhi⟩ : ∃ hi, x.hi = hi := ⟨_, rfl⟩
      have HNx : Hid (mt x = false → ∀ y ∈ tblR.take (k + 1), mt y = false) := fun h y hy => by
        rw [HTk2.out] at hy
        rcases List.mem_append.1 hy with h' | h'
        · exact hn.out y h'
        · rw [List.mem_singleton.1 h']; exact h
      obtain ⟨wd, kd, op, fr, xn, xp⟩ := x
      dsimp only at c0 HMx HYes HFm
      clear hbc hbn hfd htk hx
      go_wp2_with fail
      refine HFm.out.mono ?_
      rintro e w1 ⟨rfl, hf1⟩
      unfold formOf Shp.form
      dsimp only
      rw [hlo, hhi]
      have HF1 := Lib.hid (hF.out.trans hf1)
      have HFo : Hid (Fr Nob ((w.alloc (.cells #[.int .i64 ck, .int .i64 co, .int .i64 ca, .int .i64 cb, .bool cf, .slice A M m, .int .i64 p1, .int .i64 p2, .int .i64 q1, .int .i64 q2, .int .i64 cn] 32)).alloc (.cells #[.string ⟨#[110, 111, 100, 101]⟩, .string ⟨#[109, 111, 118, 101]⟩, .string ⟨#[114, 101, 109, 110, 111, 100, 101]⟩, .string ⟨#[101, 100, 103, 101]⟩, .string ⟨#[114, 101, 109, 101, 100, 103, 101]⟩, .string ⟨#[99, 104, 97, 110, 103, 101]⟩, .string ⟨#[115, 112, 108, 105, 116]⟩, .string ⟨#[104, 101, 97, 108]⟩, .string ⟨#[110, 101, 119, 101, 100, 103, 101]⟩, .string ⟨#[110, 101, 119, 114, 101, 109]⟩, .string ⟨#[110, 101, 119, 115, 112, 108, 105, 116]⟩, .string ⟨#[110, 101, 119, 104, 101, 97, 108]⟩, .string ⟨#[98, 101, 103, 105, 110]⟩, .string ⟨#[99, 111, 109, 109, 105, 116]⟩, .string ⟨#[97, 98, 111, 114, 116]⟩, .string ⟨#[115, 97, 118, 101]⟩, .string ⟨#[98, 97, 99, 107]⟩, .string ⟨#[97, 116]⟩, .string ⟨#[114, 111, 117, 110, 100]⟩, .string ⟨#[114, 105, 110, 103, 115]⟩, .string ⟨#[119, 105, 110, 100, 111, 119]⟩, .string ⟨#[112, 108, 97, 110]⟩, .string ⟨#[99, 104, 101, 99, 107]⟩, .string ⟨#[99, 111, 117, 110, 116]⟩] 9)) (w1.alloc (.cells #[.int .i64 kd, .int .i64 op, .bool fr, .int .i64 xn, .int .i64 lo, .int .i64 hi] 64))) := HF1.out.alloc _
      have d0 := (hf1.cell (p := ⟨w.heap.size, 0, none⟩) hzc (fun h => h)).trans d0
      have d1 := (hf1.cell (p := ⟨w.heap.size, 1, none⟩) hzc (fun h => h)).trans d1
      have d4 := (hf1.cell (p := ⟨w.heap.size, 4, none⟩) hzc (fun h => h)).trans d4
      have c0 := (hf1.cell (p := ⟨w.heap.size + 1, k, none⟩) hzn (fun h => h)).trans c0
      have hzc1 := Nat.lt_of_lt_of_le hzc hf1.size
      have hzn1 := Nat.lt_of_lt_of_le hzn hf1.size
      have hne1 : ¬ w.heap.size = w1.heap.size := by omega
      have hne2 : ¬ w.heap.size + 1 = w1.heap.size := by omega
      have ki : (0 : Int) ≤ (k : Int) := by omega
      clear hf1 HFm hlo hhi
      by_cases h1 : kd = ck
      rotate_left
      · have hkb : (kd == ck) = false := by simpa using h1
        have HNo : Hid (mt ⟨wd, kd, op, fr, xn, xp⟩ = false) := by show _ = _; rw [HMx.out]; exact decide_eq_false (fun h => h1 h.1)
        go_wp2
        go_roundw
        case rel => exact ⟨k + 1, by omega, by go_num, HNx.out HNo.out, HFo.out⟩
        case measure => simp [intOf]; omega
      by_cases h2 : op = co
      rotate_left
      · have hkb : (op == co) = false := by simpa using h2
        have HNo : Hid (mt ⟨wd, kd, op, fr, xn, xp⟩ = false) := by show _ = _; rw [HMx.out]; exact decide_eq_false (fun h => h2 h.2.1)
        have hkb1 : (kd == ck) = true := by simpa using h1
        clear h1
        go_wp2
        go_roundw
        case rel => exact ⟨k + 1, by omega, by go_num, HNx.out HNo.out, HFo.out⟩
        case measure => simp [intOf]; omega
      by_cases h3 : fr = cf
      rotate_left
      · have hkb : (fr == cf) = false := by simpa using h3
        have HNo : Hid (mt ⟨wd, kd, op, fr, xn, xp⟩ = false) := by show _ = _; rw [HMx.out]; exact decide_eq_false (fun h => h3 h.2.2)
        have hkb1 : (kd == ck) = true := by simpa using h1
        have hkb2 : (op == co) = true := by simpa using h2
        clear h1 h2
        go_wp2
        go_roundw
        case rel => exact ⟨k + 1, by omega, by go_num, HNx.out HNo.out, HFo.out⟩
        case measure => simp [intOf]; omega
      have HT := Lib.hid (HYes.out (by rw [HMx.out]; exact decide_eq_true ⟨h1, h2, h3⟩))
      have hkb1 : (kd == ck) = true := by simpa using h1
      have hkb2 : (op == co) = true := by simpa using h2
      have hkb3 : (fr == cf) = true := by simpa using h3
      clear h1 h2 h3
      go_wp2
      go_ret
      exact ⟨by rw [HT.out]; rfl, HF2.out.trans HFo.out⟩
    · obtain rfl : k = 24 := by omega
      have HT := Lib.hid (HTn.out (fun x hx => hn.out x (by show x ∈ tblR.take tblR.length; rw [List.take_length]; exact hx)))
      clear hbc hbn
      go_wp2
      go_ret
      exact ⟨by rw [HT.out]; rfl, HF2.out.trans hF.out⟩
end Go.Proofs.YtidohbhcjnmmeaaDoor
