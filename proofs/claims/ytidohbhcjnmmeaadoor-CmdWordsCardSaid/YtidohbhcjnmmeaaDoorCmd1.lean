/-
  Commands: shapes, fits, Clip, points, Numbers.
-/
import Derived.Test.YtidohbhcjnmmeaaDoorCmd0
namespace Go.Proofs.YtidohbhcjnmmeaaDoor
set_option linter.unusedSimpArgs false
set_option linter.unusedVariables false
open Go.RowKit

/-- What stands behind a word. -/
structure Shp where
  word : List UInt8
  kind : Int
  op : Int
  fresh : Bool
  n : Nat
  p : Nat
def Shp.v (x : Shp) : Value := .agg #[.string (tx x.word), .int .i64 x.kind, .int .i64 x.op, .bool x.fresh, .int .i64 x.n, .int .i64 x.p]
def Shp.fits (x : Shp) (n : Nat) : Bool :=
  if x.p = 3 then decide (x.n + 2 ≤ n ∧ (n - x.n) % 2 = 0 ∧ n ≤ x.n + 128) else decide (n = x.n + 2 * x.p)

set_option maxHeartbeats 1600000 in
set_option maxRecDepth 100000 in
theorem fits_any (x : Shp) (n : Nat) (w : World) (hn : n ≤ 1000000) (hx : x.n ≤ 2) (hp : x.p ≤ 3) :
    Calls Tryd.prog 18 #[x.v, .int .i64 n] w fun e w' => e = .returned (.bool (x.fits n)) ∧ Fr Nob w w' := by
  obtain ⟨wd, kd, op, fr, xn, xp⟩ := x
  unfold Shp.v Shp.fits
  dsimp only at hx hp ⊢
  have hF : Fr Nob w (w.alloc (.cells #[.string (tx wd), .int .i64 kd, .int .i64 op, .bool fr, .int .i64 xn, .int .i64 xp] 54)) := (Fr.refl _ _).alloc _
  have HF := Lib.hid hF
  clear hF
  obtain ⟨R, hR⟩ : ∃ R, (if xp = 3 then decide (xn + 2 ≤ n ∧ (n - xn) % 2 = 0 ∧ n ≤ xn + 128) else decide (n = xn + 2 * xp)) = R := ⟨_, rfl⟩
  rw [hR]
  have HR := Lib.hid hR
  clear hR
  have hi : -1000000 ≤ (n : Int) - xn ∧ (n : Int) - xn ≤ 1000000 := by omega
  go_enter Tryd.func18, Tryd.ntmps18
  by_cases h3 : xp = 3
  · subst h3
    by_cases h2 : xn + 2 ≤ n
    · have k2 : (2 : Int) ≤ (n : Int) - xn := by omega
      have km : ((n : Int) - xn).tmod 2 = ((n : Int) - xn) % 2 := Int.tmod_eq_emod_of_nonneg (by omega)
      by_cases he : ((n : Int) - xn) % 2 = 0
      · go_wp2
        all_goals (go_ret; refine ⟨congrArg (fun b => Ending.returned (.bool b)) ?_, HF.out⟩; rw [← HR.out]; apply Bool.eq_iff_iff.2; simp; omega)
      · go_wp2
        all_goals (go_ret; refine ⟨congrArg (fun b => Ending.returned (.bool b)) ?_, HF.out⟩; rw [← HR.out]; apply Bool.eq_iff_iff.2; simp; omega)
    · have k2 : ¬ (2 : Int) ≤ (n : Int) - xn := by omega
      go_wp2
      all_goals (go_ret; refine ⟨congrArg (fun b => Ending.returned (.bool b)) ?_, HF.out⟩; rw [← HR.out]; apply Bool.eq_iff_iff.2; simp; omega)
  · have k3 : ¬ (xp : Int) = 3 := by omega
    go_wp2
    all_goals (go_ret; refine ⟨congrArg (fun b => Ending.returned (.bool b)) ?_, HF.out⟩; rw [← HR.out, if_neg h3]; apply Bool.eq_iff_iff.2; simp; omega)

theorem info_i64' : (Tryd.prog.info? 2).map (fun i => (i.zero, i.size, i.bytes)) = some (some (.int .i64 0), 1, 8) := by kernel_rfl
theorem info_P' : (Tryd.prog.info? 30).map (fun i => (i.zero, i.size, i.bytes)) = some (some (.agg #[.int .i64 0, .int .i64 0]), 2, 16) := by kernel_rfl
theorem info_parts' {P : Program} {t : TypeId} {z : Value} {n b : Nat} (h : (P.info? t).map (fun i => (i.zero, i.size, i.bytes)) = some (some z, n, b)) :
    ∃ i, P.info? t = some i ∧ i.zero = some z ∧ i.size = n ∧ i.bytes = b := by
  cases hi : P.info? t with
  | none => rw [hi] at h; cases h
  | some i => rw [hi] at h; simp only [Option.map_some, Option.some.injEq, Prod.mk.injEq] at h; exact ⟨i, rfl, h.1, h.2.1, h.2.2⟩
theorem len_Ps (w : World) (A : Option Addr) (n c : Nat) : (Builtin.len_ #[26] 3 #[Value.slice A n c]).run Tryd.prog w = .ok (.int .i64 n) w := by go_simp
theorem len_i64s (w : World) (A : Option Addr) (n c : Nat) : (Builtin.len_ #[55] 3 #[Value.slice A n c]).run Tryd.prog w = .ok (.int .i64 n) w := by go_simp
theorem len_strs (w : World) (A : Option Addr) (n c : Nat) : (Builtin.len_ #[47] 3 #[Value.slice A n c]).run Tryd.prog w = .ok (.int .i64 n) w := by go_simp
def ints (l : List Int) : List Value := l.map fun x => .int .i64 x
theorem ints_length (l : List Int) : (ints l).length = l.length := by simp [ints]
theorem ints_append (a b : List Int) : ints (a ++ b) = ints a ++ ints b := by simp [ints]
theorem ints_get (s : List Int) (i : Nat) : (ints s)[i]? = s[i]?.map fun x => Value.int .i64 x := by simp [ints]
theorem ints_one (s : List Int) : ∀ u ∈ ints s, u.oneCell' = true := by
  intro u hu
  simp only [ints, List.mem_map] at hu
  obtain ⟨x, _, rfl⟩ := hu
  rfl
/-- A row of numbers that can be read. -/
def I64In (w : World) (A : Option Addr) (l : List Int) : Prop := 0 < l.length → ∃ g o, A = some ⟨g, o, none⟩ ∧ ∀ (j : Nat) x, l[j]? = some x → w.cell? ⟨g, o + j, none⟩ = some (.int .i64 x)
theorem I64In.new {w w' : World} {A : Option Addr} {l : List Int} (h : I64In w A l) (hf : Fr Nob w w') : I64In w' A l := fun h0 => by
  obtain ⟨g, o, rfl, hc⟩ := h h0
  exact ⟨g, o, rfl, fun j x hx => (hf.cell (cell_lt (hc j x hx)) (fun h => h)).trans (hc j x hx)⟩
/-- A row of points that can be read. -/
def PtsIn (w : World) (A : Option Addr) (l : List (Int × Int)) : Prop := 0 < l.length → ∃ g o, A = some ⟨g, o, none⟩ ∧ ∀ (j : Nat) p, l[j]? = some p → w.cell? ⟨g, o + j * 2, none⟩ = some (.int .i64 p.1) ∧ w.cell? ⟨g, o + j * 2 + 1, none⟩ = some (.int .i64 p.2)
theorem PtsIn.new {w w' : World} {A : Option Addr} {l : List (Int × Int)} (h : PtsIn w A l) (hf : Fr Nob w w') : PtsIn w' A l := fun h0 => by
  obtain ⟨g, o, rfl, hc⟩ := h h0
  exact ⟨g, o, rfl, fun j x hx => ⟨(hf.cell (cell_lt (hc j x hx).1) (fun h => h)).trans (hc j x hx).1, (hf.cell (cell_lt (hc j x hx).2) (fun h => h)).trans (hc j x hx).2⟩⟩
/-- A row of texts that can be read. -/
def StrIn (w : World) (A : Option Addr) (l : List (List UInt8)) : Prop := 0 < l.length → ∃ g o, A = some ⟨g, o, none⟩ ∧ ∀ (j : Nat) x, l[j]? = some x → w.cell? ⟨g, o + j, none⟩ = some (.string (tx x))
theorem StrIn.new {w w' : World} {A : Option Addr} {l : List (List UInt8)} (h : StrIn w A l) (hf : Fr Nob w w') : StrIn w' A l := fun h0 => by
  obtain ⟨g, o, rfl, hc⟩ := h h0
  exact ⟨g, o, rfl, fun j x hx => (hf.cell (cell_lt (hc j x hx)) (fun h => h)).trans (hc j x hx)⟩
theorem StrIn.tail {w : World} {g o : Nat} {x : List UInt8} {l : List (List UInt8)} (h : StrIn w (some ⟨g, o, none⟩) (x :: l)) : StrIn w (some ⟨g, o + 1, none⟩) l := fun _ => by
  obtain ⟨g', o', e, hc⟩ := h (by simp)
  injection e with e
  injection e with e1 e2
  subst e1 e2
  exact ⟨g, o + 1, rfl, fun j y hy => by
    have := hc (j + 1) y (by simpa using hy)
    rwa [show o + (j + 1) = o + 1 + j by omega] at this⟩

set_option maxHeartbeats 1600000 in
set_option maxRecDepth 100000 in
theorem clip_any (A : Option Addr) (n c : Nat) (w : World) (hn : n ≤ c) :
    Calls Tryd.prog 42 #[.slice A n c] w fun e w' => ∃ v, e = .returned v ∧ v = .slice A n n ∧ w' = w := by
  have qP := len_Ps
  go_enter Tryd.func42, Tryd.ntmps42
  go_wp2
  go_ret
  exact ⟨_, rfl, rfl, rfl⟩

/-- Numbers: what they are. -/
def numsC : List (List UInt8) → Option (List Int)
  | [] => some []
  | x :: r => match numC x, numsC r with
    | some n, some ns => some (n :: ns)
    | _, _ => none
theorem numsC_append (a b : List (List UInt8)) : numsC (a ++ b) = match numsC a, numsC b with
    | some x, some y => some (x ++ y)
    | _, _ => none := by
  induction a with
  | nil => simp only [List.nil_append, numsC]; cases numsC b <;> rfl
  | cons c r ih =>
    simp only [List.cons_append, numsC, ih]
    cases numC c <;> cases numsC r <;> cases numsC b <;> rfl
theorem numsC_length {l : List (List UInt8)} {ns : List Int} (h : numsC l = some ns) : ns.length = l.length := by
  induction l generalizing ns with
  | nil => simp only [numsC, Option.some.injEq] at h; subst h; rfl
  | cons c r ih =>
    simp only [numsC] at h
    split at h
    · rename_i n m hn hm
      cases h
      simp [ih hm]
    · cases h
theorem numsC_take {l : List (List UInt8)} {k : Nat} (hk : k < l.length) {ns : List Int} (h : numsC (l.take k) = some ns) {x : Int} (hx : numC l[k] = some x) : numsC (l.take (k + 1)) = some (ns ++ [x]) := by
  rw [List.take_add_one, List.getElem?_eq_getElem hk, numsC_append, h]
  simp [numsC, hx]
theorem numsC_no {l : List (List UInt8)} {k : Nat} (hk : k < l.length) (hx : numC l[k] = none) : numsC l = none := by
  rw [← List.take_append_drop k l, numsC_append, List.drop_eq_getElem_cons hk]
  simp [numsC, hx]

/-- A slice that was made here: nil, or from a block's head. -/
def Sl (A : Option Addr) (n c : Nat) : Prop := (A = none ∧ n = 0 ∧ c = 0) ∨ ∃ g, A = some ⟨g, 0, none⟩
/-- Numbers' answer. -/
def NumsAre (w : World) (o : Option (List Int)) (A : Option Addr) (n c : Nat) (ok : Bool) : Prop := n ≤ c ∧ match o with
  | some ns => ok = true ∧ n = ns.length ∧ I64In w A ns ∧ Sl A n c
  | none => ok = false

theorem i64In_row {w : World} {base n : Nat} {v : Value} {l : List Int} (h : w.ownsRow base 2 1 v n (ints l)) (hn : n = l.length) : ∃ A c, v = .slice A n c ∧ n ≤ c ∧ I64In w A l ∧ Sl A n c := by
  rcases h.2 with ⟨e, h1⟩ | ⟨g', cap', cur, e, h1, hh, h2, h3, h4, ht⟩
  · subst e
    exact ⟨none, 0, by rw [h1], by omega, fun h0 => by omega, .inl ⟨rfl, h1, rfl⟩⟩
  · refine ⟨_, cap', e, by omega, fun h0 => ⟨g', 0, rfl, fun j x hx => ?_⟩, .inr ⟨g', rfl⟩⟩
    have hb : (ints l)[j]? = some (.int .i64 x) := by rw [ints_get, hx]; rfl
    rw [← ht, List.getElem?_take] at hb
    split at hb
    · rw [Nat.zero_add, Blk.cell hh j, ← Array.getElem?_toList]; exact hb
    · cases hb

set_option maxHeartbeats 1600000 in
set_option maxRecDepth 100000 in
theorem Numbers_any (A : Option Addr) (cp : Nat) (l : List (List UInt8)) (w : World) (he : Env w) (h : StrIn w A l) (hl : l.length ≤ 1000000) (hs : ∀ x ∈ l, x.length ≤ 100000) :
    Calls Tryd.prog 17 #[.slice A l.length cp] w fun e w' => ∃ B n c ok, e = .returned (.tuple #[.slice B n c, .bool ok]) ∧ NumsAre w' (numsC l) B n c ok ∧ Fr Nob w w' := by
  obtain ⟨i0, hi0, hz0, hz1, hz2⟩ := info_parts' info_i64'
  have qL := len_strs
  have HSz := Lib.hid hs
  have HIn := Lib.hid h
  have HEn := Lib.hid he
  obtain ⟨N, hN⟩ : ∃ N, l.length = N := ⟨_, rfl⟩
  have HNl := Lib.hid hN
  rw [hN] at hl ⊢
  clear h hs he hN
  go_enter Tryd.func17, Tryd.ntmps17
  go_wp2
  go_loopw [4, 11] (fun v i wr => ∃ (k : Nat) (ns : List Int), k ≤ N ∧ i = .int .i64 k ∧ Hid (numsC (l.take k) = some ns) ∧ Hid (wr.ownsRow w.heap.size 2 1 v k (ints ns)) ∧ Hid (Fr Nob w wr)) (fun _ i _ => N - (intOf i).toNat)
  case atStart => exact ⟨0, [], Nat.zero_le _, rfl, rfl, World.ownsRow_nil _ _ _ _, Fr.refl _ _⟩
  case round =>
    obtain ⟨k, ns, hk, rfl, hns, ho, hF⟩ := hrel
    by_cases hlt : k < N
    · have hlt' : k < l.length := by rw [HNl.out]; exact hlt
      obtain ⟨g, o, rfl, hc⟩ := HIn.out (by omega)
      have c0 := hc k _ (List.getElem?_eq_getElem hlt')
      rw [← hF.out.cell (cell_lt c0) (fun h => h)] at c0
      have hx := HSz.out _ (List.getElem_mem hlt')
      obtain ⟨x, hxx⟩ : ∃ x, l[k] = x := ⟨_, rfl⟩
      rw [hxx] at c0 hx
      have HX := Lib.hid hxx
      have HC := Lib.hid (Number_any (tx x) wr (HEn.out.new hF.out) hx)
      clear hc hx hxx
      go_wp2_with fail
      refine HC.out.mono ?_
      rintro e w1 ⟨n, ok, rfl, ⟨hnb, hcase⟩, hf1⟩
      rw [bs_tx] at hcase
      have HF1 := Lib.hid (hF.out.trans hf1)
      rcases hcase with ⟨rfl, hok⟩ | ⟨rfl, hno⟩
      · have hown := own_fr ho.out hf1 (fun _ _ h => h)
        have hsz := HF1.out.size
        have HS := Lib.hid (numsC_take hlt' hns.out (HX.out ▸ hok))
        have HO : Hid ((w1.alloc (.cells #[.int .i64 n] 2)).ownsRow w.heap.size 2 1 u4 k (ints ns)) := own_fr hown ((Fr.refl Nob w1).alloc _) (fun _ _ h => h)
        have HNw := Lib.hid (cell_one_new w1 (.int .i64 n) 2)
        have HF2 : Hid (Fr Nob w (w1.alloc (.cells #[.int .i64 n] 2))) := HF1.out.alloc _
        have hb04 : w.heap.size ≤ (w1.alloc (.cells #[.int .i64 n] 2)).heap.size := HF2.out.size
        clear hok hnb hf1 HC hown ho hF c0 hns
        go_wp2_with (at_builtin; go_must (refine wpList_append_own_at _ rfl (.tmp 22) (.tmp 24) 55 rfl w.heap.size 2 i0 (.int .i64 0) 1 8 Tryd.underlying55 hi0 hz0 hz1 hz2 rfl (by decide) u4 k (ints ns) rfl HO.out ⟨w1.heap.size, 0, none⟩ 1 1 [.int .i64 n] rfl rfl HNw.out (by simp [Value.oneCell']) (by unfold maxLen; omega) (by omega) hb04 ?_); intro v7 w7 hown7 hg7 hn7 hat7)
        have HO7 : Hid (w7.ownsRow w.heap.size 2 1 v7 (k + 1) (ints (ns ++ [n]))) := by rw [ints_append]; exact hown7
        have HF7 : Hid (Fr Nob w w7) := Fr.grown HF2.out hg7 (fun r hr => .inl (HO.out.lt r hr).1)
        clear hown7 hg7 hn7 hat7
        go_wp2
        go_roundw
        case rel => exact ⟨k + 1, _, by omega, by go_num, HS, HO7, HF7⟩
        case measure => simp [intOf]; omega
      · have HNo := Lib.hid (numsC_no hlt' (HX.out ▸ hno))
        clear hno hnb
        go_wp2
        go_ret2
        exact ⟨none, 0, 0, false, rfl, ⟨by omega, by rw [HNo.out]⟩, HF1.out⟩
    · obtain rfl : k = N := by omega
      have hall : l.take k = l := List.take_of_length_le (by rw [HNl.out]; exact Nat.le_refl _)
      have hnl := numsC_length (hall ▸ hns.out)
      obtain ⟨B, c, rfl, hnc, hI, hSl⟩ := i64In_row ho.out (by rw [hnl, HNl.out])
      have HR : Hid (NumsAre wr (numsC l) B k c true) := ⟨hnc, by rw [← hall, hns.out]; exact ⟨rfl, by rw [hnl, HNl.out], hI, hSl⟩⟩
      clear hI hnl hall hSl
      go_wp2
      go_ret2
      exact ⟨B, k, c, true, rfl, HR.out, hF.out⟩
end Go.Proofs.YtidohbhcjnmmeaaDoor
