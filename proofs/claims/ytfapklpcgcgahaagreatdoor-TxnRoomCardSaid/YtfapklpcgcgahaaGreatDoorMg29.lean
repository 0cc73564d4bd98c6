/-
  TxnTrim, Pk1, PkBits, PkUvar, Txn0, PkJoin0, TxnUpd, in one text.
-/
import Derived.Shelf.Bytes.SlTrim
import Derived.Test.YtfapklpcgcgahaaGreatDoorMg27
import Derived.Test.YtfapklpcgcgahaaGreatDoorMg03
import Derived.Test.YtfapklpcgcgahaaGreatDoorMg28
/-
  bytes.TrimRight of noughts: the shelf's contract laid at this dump, in plain words.
-/
namespace Go.Proofs.YtfapklpcgcgahaaGreatDoor
set_option linter.unusedSimpArgs false
set_option linter.unusedVariables false
open Go.Shelf Go.RowKit

def trimRen : Go.Shelf.Ren := ⟨fun | 7 => 114 | 10 => 132 | 11 => 133 | 13 => 134 | 15 => 135 | 16 => 142 | 19 => 143 | 18 => 144 | 21 => 149 | 17 => 145 | 20 => 150 | n => n, fun | 22 => 40 | 9 => 9 | 3 => 3 | 4 => 4 | 5 => 5 | 28 => 186 | 27 => 185 | 0 => 0 | 31 => 189 | 21 => 21 | 33 => 196 | 36 => 202 | 37 => 52 | 40 => 205 | 39 => 204 | n => n, fun n => n⟩
set_option maxRecDepth 100000 in
theorem trimLays : SlLaysV.n7 Tryz.prog trimRen where
  mixed := by kernel_rfl
  f7 := Tryz.func114.trans (congrArg some (by kernel_rfl))
  f10 := Tryz.func132.trans (congrArg some (by kernel_rfl))
  f11 := Tryz.func133.trans (congrArg some (by kernel_rfl))
  f13 := Tryz.func134.trans (congrArg some (by kernel_rfl))
  f15 := Tryz.func135.trans (congrArg some (by kernel_rfl))
  f16 := Tryz.func142.trans (congrArg some (by kernel_rfl))
  f17 := Tryz.func145.trans (congrArg some (by kernel_rfl))
  f18 := Tryz.func144.trans (congrArg some (by kernel_rfl))
  f19 := Tryz.func143.trans (congrArg some (by kernel_rfl))
  f20 := Tryz.func150.trans (congrArg some (by kernel_rfl))
  f21 := Tryz.func149.trans (congrArg some (by kernel_rfl))
  t0 := Tryz.underlying0
  a0 := Tryz.isAgg0
  z0 := Tryz.sizeOf0
  v0 := Tryz.zeroValue0
  t3 := Tryz.underlying3
  a3 := Tryz.isAgg3
  z3 := Tryz.sizeOf3
  v3 := Tryz.zeroValue3
  t4 := Tryz.underlying4
  a4 := Tryz.isAgg4
  z4 := Tryz.sizeOf4
  v4 := Tryz.zeroValue4
  t5 := Tryz.underlying5
  a5 := Tryz.isAgg5
  z5 := Tryz.sizeOf5
  v5 := Tryz.zeroValue5
  t9 := Tryz.underlying9
  a9 := Tryz.isAgg9
  z9 := Tryz.sizeOf9
  v9 := Tryz.zeroValue9
  t21 := Tryz.underlying21
  a21 := Tryz.isAgg21
  z21 := Tryz.sizeOf21
  v21 := Tryz.zeroValue21
  t22 := Tryz.underlying40
  a22 := Tryz.isAgg40
  z22 := Tryz.sizeOf40
  v22 := Tryz.zeroValue40
  t27 := Tryz.underlying185
  a27 := Tryz.isAgg185
  z27 := Tryz.sizeOf185
  t28 := Tryz.underlying186
  a28 := Tryz.isAgg186
  z28 := Tryz.sizeOf186
  v28 := Tryz.zeroValue186
  t31 := Tryz.underlying189
  a31 := Tryz.isAgg189
  z31 := Tryz.sizeOf189
  v31 := Tryz.zeroValue189
  t33 := Tryz.underlying196
  a33 := Tryz.isAgg196
  z33 := Tryz.sizeOf196
  v33 := Tryz.zeroValue196
  t36 := Tryz.underlying202
  a36 := Tryz.isAgg202
  z36 := Tryz.sizeOf202
  t37 := Tryz.underlying52
  a37 := Tryz.isAgg52
  z37 := Tryz.sizeOf52
  v37 := Tryz.zeroValue52
  t39 := Tryz.underlying204
  a39 := Tryz.isAgg204
  z39 := Tryz.sizeOf204
  v39 := Tryz.zeroValue204
  t40 := Tryz.underlying205
  a40 := Tryz.isAgg205
  z40 := Tryz.sizeOf205
  v40 := Tryz.zeroValue205
theorem short_eq (b : List UInt8) : Lib.trimRightS b [0] = shortB b := by
  unfold Lib.trimRightS shortB
  congr 1
  congr 1
  funext x
  by_cases h : x = 0 <;> simp [h]
/-- TrimRight of noughts. -/
theorem TrimR_any (A : Option Addr) (c : Nat) (b : List UInt8) (w : World) (hb : BytesIn w A b) (h0 : 0 < b.length) (hc : b.length ≤ c) (hbig : c ≤ 9223372036854775807) :
    Calls Tryz.prog 114 #[.slice A b.length c, .string ⟨#[0]⟩] w fun e w' => e = .returned (.slice A (shortB b).length c) ∧ w = w' := by
  have h := Any.bytes_TrimRight_one trimLays A b.length c b 0 w rfl hc hbig ?_ h0 (by decide)
  · rw [short_eq] at h
    exact h.mono fun e w' q => ⟨q.1, q.2.symm⟩
  · intro h1
    obtain ⟨g, o, e, hx⟩ := hb h1
    exact ⟨g, o, e, fun i hi => by rw [hx i _ (List.getElem?_eq_getElem hi), Lib.getD_lt_sl _ _ _ hi]⟩
end Go.Proofs.YtfapklpcgcgahaaGreatDoor

/-
  Numbers one behind the other, a node's bytes (plain).
-/
namespace Go.Proofs.YtfapklpcgcgahaaGreatDoor
set_option linter.unusedSimpArgs false
set_option linter.unusedVariables false
open Go.RowKit

/-- Bytes that are read number by number, and the first error. -/
structure Rd where
  b : List UInt8
  e : Nat
def Rd.x (r : Rd) : Int := if r.e = 0 then (intOfB r.b).1 else 0
def Rd.nx (r : Rd) : Rd := if r.e = 0 then ⟨r.b.drop (intOfB r.b).2.1, (intOfB r.b).2.2⟩ else r
def Rd.stop (r : Rd) : Nat := if r.e = 0 ∧ 0 < r.b.length then 3 else r.e
/-- A number that was written is read. -/
theorem Rd.read (x : Int) (rest : List UInt8) (h0 : -9223372036854775808 ≤ x) (h1 : x ≤ 9223372036854775807) : (Rd.mk (intB x ++ rest) 0).x = x ∧ (Rd.mk (intB x ++ rest) 0).nx = ⟨rest, 0⟩ := by
  have h := intOfB_intB x rest h0 h1
  unfold Rd.x Rd.nx
  dsimp only
  rw [h]
  exact ⟨rfl, by rw [if_pos rfl, List.drop_left]⟩

structure Nd where
  id : Int
  x : Int
  y : Int
  f : Int
structure Nd.Ok (n : Nd) : Prop where
  i0 : -9223372036854775808 ≤ n.id
  i1 : n.id ≤ 9223372036854775807
  x0 : -9223372036854775808 ≤ n.x
  x1 : n.x ≤ 9223372036854775807
  y0 : -9223372036854775808 ≤ n.y
  y1 : n.y ≤ 9223372036854775807
  f0 : -9223372036854775808 ≤ n.f
  f1 : n.f ≤ 9223372036854775807
def Nd.v (n : Nd) : Value := .agg #[.int .i64 n.id, .int .i64 n.x, .int .i64 n.y, .int .i64 n.f]
def Nd.zero : Nd := ⟨0, 0, 0, 0⟩
def nums : List Int → List UInt8
  | [] => []
  | x :: l => intB x ++ nums l
def Nd.l (n : Nd) : List Int := [n.id, n.x, n.y, n.f]
def Nd.b (n : Nd) : List UInt8 := nums n.l
def Rd.of (b : List UInt8) : Rd := ⟨b, 0⟩
end Go.Proofs.YtfapklpcgcgahaaGreatDoor

/-
  What Go's words on bits say of numbers as bytes.
-/
namespace Go.Proofs.YtfapklpcgcgahaaGreatDoor
set_option linter.unusedSimpArgs false
set_option linter.unusedVariables false
open Go.RowKit

theorem wrap_u8' (x : Int) : IntKind.u8.wrap x = x % 256 := by
  simp [IntKind.wrap, IntKind.signed, IntKind.bits]
theorem or8_128 (x : Nat) : bits .or .u8 (((x % 256 : Nat)) : Int) 128 = ((x % 128 + 128 : Nat) : Int) := by
  show IntKind.u8.wrap ((BitVec.ofInt 8 ((x % 256 : Nat) : Int) ||| BitVec.ofInt 8 128).toNat : Nat) = _
  have e1 : (BitVec.ofInt 8 ((x % 256 : Nat) : Int)).toNat = x % 256 := by rw [BitVec.toNat_ofInt]; omega
  have e2 : (BitVec.ofInt 8 128).toNat = 128 := by decide
  rw [BitVec.toNat_or, e1, e2]
  have key : x % 256 ||| 128 = x % 128 + 128 := by
    have h1 : x % 256 = 128 * (x % 256 / 128) + x % 128 := by omega
    have h2 : x % 256 / 128 = 0 ∨ x % 256 / 128 = 1 := by omega
    have h3 : (128 : Nat) ||| x % 128 = 128 + x % 128 := by
      have := Nat.shiftLeft_add_eq_or_of_lt (b := x % 128) (i := 7) (by omega) 1
      rw [Nat.shiftLeft_eq] at this
      simpa using this.symm
    rcases h2 with h2 | h2
    · rw [h2, Nat.mul_zero, Nat.zero_add] at h1
      rw [h1, Nat.or_comm, h3]; omega
    · rw [h2, Nat.mul_one, ← h3] at h1
      rw [h1, Nat.or_comm, ← Nat.or_assoc, Nat.or_self, h3]; omega
  rw [key, wrap_u8']
  omega
end Go.Proofs.YtfapklpcgcgahaaGreatDoor

/-
  Uvar: a number's bytes.
-/
namespace Go.Proofs.YtfapklpcgcgahaaGreatDoor
set_option linter.unusedSimpArgs false
set_option linter.unusedVariables false
open Go.RowKit

theorem info_u8' : (Tryz.prog.info? 5).map (fun i => (i.zero, i.size, i.bytes)) = some (some (.int .u8 0), 1, 1) := by kernel_rfl
theorem info_parts' {P : Program} {t : TypeId} {z : Value} {n b : Nat} (h : (P.info? t).map (fun i => (i.zero, i.size, i.bytes)) = some (some z, n, b)) : ∃ i, P.info? t = some i ∧ i.zero = some z ∧ i.size = n ∧ i.bytes = b := by
  cases hi : P.info? t with
  | none => rw [hi] at h; simp at h
  | some i => rw [hi] at h; simp at h; exact ⟨i, rfl, h.1, h.2.1, h.2.2⟩

theorem len_bytes (w : World) (A : Option Addr) (n c : Nat) : (Builtin.len_ #[40] 3 #[Value.slice A n c]).run Tryz.prog w = .ok (.int .i64 n) w := by go_simp
/-- A row of bytes that the call made, no room behind it. -/
def Made (w w' : World) (v : Value) (l : List UInt8) : Prop := ∃ g, v = .slice (some ⟨g, 0, none⟩) l.length l.length ∧ BytesIn w' (some ⟨g, 0, none⟩) l ∧ w.heap.size ≤ g ∧ g < w'.heap.size ∧ Fr Nob w w'

set_option maxHeartbeats 1600000 in
set_option maxRecDepth 100000 in
theorem Uvar_any (x : Nat) (w : World) (hx : x < 18446744073709551616) : Calls Tryz.prog 113 #[.int .u64 x] w fun e w' => ∃ v, e = .returned v ∧ Made w w' v (uvar x) := by
  obtain ⟨i0, hi0, hz0, hz1, hz2⟩ := info_parts' info_u8'
  have hle := uvar_le x hx
  have qL := len_bytes
  go_enter Tryz.func113, Tryz.ntmps113
  go_wp2
  go_loopw [0, 3] (fun y v wr => ∃ (n : Nat) (pre : List UInt8), n ≤ x ∧ y = .int .u64 n ∧ Hid (pre ++ uvar n = uvar x) ∧ Hid (wr.ownsRow w.heap.size 5 1 v pre.length (bts pre)) ∧ Hid (Fr Nob w wr)) (fun y _ _ => (intOf y).toNat)
  case atStart => exact ⟨x, [], Nat.le_refl _, rfl, rfl, World.ownsRow_nil _ _ _ _, Fr.refl _ _⟩
  case round =>
    obtain ⟨n, pre, hn, rfl, hp, ho, hF⟩ := hrel
    have hpl : pre.length ≤ 10 := by
      have := congrArg List.length hp.out
      rw [List.length_append] at this
      omega
    have hsz := hF.out.size
    have hown := ho.out
    by_cases hlt : 128 ≤ n
    · have hb := or8_128 n
      have hu := uvar_big hlt
      rw [hu] at hp
      have hm8 : (UInt8.ofNat (n % 128 + 128)).toNat = n % 128 + 128 := ofNat_toNat (by omega)
      obtain ⟨c8, hc8⟩ : ∃ c8, UInt8.ofNat (n % 128 + 128) = c8 := ⟨_, rfl⟩
      rw [hc8] at hm8 hp
      have e2 : bits .or .u8 ((n : Int) % 256) 128 = ((c8.toNat : Nat) : Int) := by rw [hm8, ← hb]; rfl
      clear hb hu hm8 hc8
      go_wp2_with (at_builtin; go_must (refine wpList_append_own_at _ rfl (.tmp 6) (.tmp 10) 40 rfl w.heap.size 5 i0 (.int .u8 0) 1 1 Tryz.underlying40 hi0 hz0 hz1 hz2 rfl (by decide) u3 pre.length (bts pre) rfl (hown.alloc _) ⟨wr.heap.size, 0, none⟩ 1 1 (bts [c8]) rfl rfl (cell_one_new _ _ _) (bts_one _) (by unfold maxLen; omega) (by omega) (by rw [World.size_alloc]; omega) ?_); intro v7 w7 hown7 hg7 hn7 hat7)
      have HO7 : Hid (w7.ownsRow w.heap.size 5 1 v7 (pre ++ [c8]).length (bts (pre ++ [c8]))) := by rw [List.length_append, bts_append]; exact hown7
      have HF7 : Hid (Fr Nob w w7) := Fr.grown (hF.out.alloc _) hg7 (fun k hk => .inl (hown.lt k hk).1)
      clear hown7 hg7 hn7 hat7
      go_wp2
      go_roundw
      case rel => exact ⟨n / 128, pre ++ [c8], by omega, by go_num, by rw [List.append_assoc]; exact hp, HO7, HF7⟩
      case measure => simp [intOf]; omega
    · have hu := uvar_small (show n < 128 by omega)
      rw [hu] at hp
      have hm8 : (UInt8.ofNat n).toNat = n := ofNat_toNat (by omega)
      obtain ⟨c8, hc8⟩ : ∃ c8, UInt8.ofNat n = c8 := ⟨_, rfl⟩
      rw [hc8] at hm8 hp
      clear hu hc8
      subst hm8
      go_wp2_with (at_builtin; go_must (refine wpList_append_own_at _ rfl (.tmp 14) (.tmp 17) 40 rfl w.heap.size 5 i0 (.int .u8 0) 1 1 Tryz.underlying40 hi0 hz0 hz1 hz2 rfl (by decide) u3 pre.length (bts pre) rfl (hown.alloc _) ⟨wr.heap.size, 0, none⟩ 1 1 (bts [c8]) rfl rfl (cell_one_new _ _ _) (bts_one _) (by unfold maxLen; omega) (by omega) (by rw [World.size_alloc]; omega) ?_); intro v7 w7 hown7 hg7 hn7 hat7)
      have hown8 : w7.ownsRow w.heap.size 5 1 v7 (uvar x).length (bts (uvar x)) := by rw [← hp.out, List.length_append, bts_append]; exact hown7
      have HF7 : Hid (Fr Nob w w7) := Fr.grown (hF.out.alloc _) hg7 (fun k hk => .inl (hown.lt k hk).1)
      have hpos : 0 < (uvar x).length := uvar_pos x
      obtain ⟨g, cap, rfl, hgb, hgl⟩ := hown8.form hpos
      have hcap : (uvar x).length ≤ cap := by
        rcases hown8.2 with ⟨e, _⟩ | ⟨_, _, _, e, _, _, h5, _⟩
        · cases e
        · injection e with _ _ e; omega
      have HB : Hid (BytesIn w7 (some ⟨g, 0, none⟩) (uvar x)) := bytesIn_own hown8
      clear hown7 hg7 hn7 hat7 hown8 hown ho hp hF hz0 hz1 hz2 hi0
      obtain ⟨m, hm⟩ : ∃ m, (uvar x).length = m := ⟨_, rfl⟩
      have HM := Lib.hid hm
      rw [hm] at hcap hle hpos ⊢
      clear hm
      go_wp2
      rw [qL]
      go_wp2
      go_ret
      exact ⟨.slice (some ⟨g, 0, none⟩) m m, rfl, g, by rw [HM.out], HB.out, hgb, hgl, HF7.out⟩
end Go.Proofs.YtfapklpcgcgahaaGreatDoor

/-
  A record's numbers, and what is short of it.
-/
namespace Go.Proofs.YtfapklpcgcgahaaGreatDoor
set_option linter.unusedSimpArgs false
set_option linter.unusedVariables false
open Go.RowKit

set_option maxRecDepth 100000 in
theorem Number_any (n : Nat) (w : World) (hn : n < 9223372036854775808) : Calls Tryz.prog 77 #[.int .i64 n] w fun e w' => ∃ v, e = .returned v ∧ Made w w' v (uvar n) := by
  have HU := Lib.hid (Uvar_any n w (by omega))
  have e8 : IntKind.u64.wrap (n : Int) = (n : Int) := by rw [IntKind.wrap_u64]; omega
  go_enter Tryz.func77, Tryz.ntmps77
  go_wp2_with fail
  refine HU.out.mono ?_
  rintro e w' ⟨v, rfl, hm⟩
  go_wp2
  go_ret
  exact ⟨v, rfl, hm⟩
set_option maxRecDepth 100000 in
/-- Nothing is cut off nothing. -/
theorem TrimR_none (A : Option Addr) (c : Nat) (w : World) : Calls Tryz.prog 114 #[.slice A 0 c, .string ⟨#[0]⟩] w fun e w' => e = .returned (.slice A 0 c) ∧ w = w' := by
  have qL : ∀ w : World, (Builtin.len_ #[40] 3 #[Value.slice A 0 c]).run Tryz.prog w = .ok (.int .i64 0) w := fun w => by go_simp
  go_enter Tryz.func114, Tryz.ntmps114
  go_wp2
  go_ret
  exact ⟨rfl, rfl⟩
set_option maxRecDepth 100000 in
theorem Short_any (A : Option Addr) (c : Nat) (b : List UInt8) (w : World) (hb : BytesIn w A b) (hc : b.length ≤ c) (hbig : c ≤ 9223372036854775807) :
    Calls Tryz.prog 79 #[.slice A b.length c] w fun e w' => e = .returned (.slice A (shortB b).length c) ∧ w = w' := by
  have HT : Hid (Calls Tryz.prog 114 #[.slice A b.length c, .string ⟨#[0]⟩] w fun e w' => e = .returned (.slice A (shortB b).length c) ∧ w = w') := by
    rcases Nat.eq_zero_or_pos b.length with h0 | h0
    · obtain rfl : b = [] := List.eq_nil_of_length_eq_zero h0
      exact TrimR_none A c w
    · exact TrimR_any A c b w hb h0 hc hbig
  clear hb
  generalize b.length = n at *
  go_enter Tryz.func79, Tryz.ntmps79
  go_wp2_with fail
  refine HT.out.mono ?_
  rintro e w' ⟨rfl, rfl⟩
  go_wp2
  go_ret
  exact ⟨rfl, rfl⟩
end Go.Proofs.YtfapklpcgcgahaaGreatDoor

/-
  Join.
-/
namespace Go.Proofs.YtfapklpcgcgahaaGreatDoor
set_option linter.unusedSimpArgs false
set_option linter.unusedVariables false
open Go.RowKit

/-- Parts that can be read, none empty. -/
def PartsIn (w : World) (A : Option Addr) (ps : List (List UInt8)) : Prop := 0 < ps.length → ∃ g o, A = some ⟨g, o, none⟩ ∧ ∀ (j : Nat) p, ps[j]? = some p → ∃ gp op c, w.cell? ⟨g, o + j, none⟩ = some (.slice (some ⟨gp, op, none⟩) p.length c) ∧ BytesIn w (some ⟨gp, op, none⟩) p
def joinB (ps : List (List UInt8)) : List UInt8 := ps.flatMap fun p => uvar p.length ++ p
theorem joinB_take (ps : List (List UInt8)) (k : Nat) (h : k < ps.length) : joinB (ps.take (k + 1)) = joinB (ps.take k) ++ uvar ps[k].length ++ ps[k] := by
  unfold joinB
  rw [List.take_add_one, List.getElem?_eq_getElem h, List.flatMap_append, List.append_assoc]
  simp
theorem joinB_len (ps : List (List UInt8)) (M : Nat) (hM : ∀ p ∈ ps, p.length ≤ M) (h : M < 18446744073709551616) : (joinB ps).length ≤ (10 + M) * ps.length := by
  induction ps with
  | nil => simp [joinB]
  | cons p ps ih =>
    have h1 := ih (fun q hq => hM q (List.mem_cons_of_mem _ hq))
    have h2 := hM p (List.mem_cons_self ..)
    have h3 := uvar_le p.length (by omega)
    simp only [joinB, List.flatMap_cons, List.length_append, List.length_cons, Nat.mul_add, Nat.mul_one] at h1 ⊢
    omega

set_option maxHeartbeats 1600000 in
set_option maxRecDepth 100000 in
theorem Join_any (A : Option Addr) (cp : Nat) (ps : List (List UInt8)) (w : World) (h : PartsIn w A ps) (h0 : 0 < ps.length) (hl : ps.length ≤ 10000) (hp : ∀ p ∈ ps, p.length ≤ 10000) :
    Calls Tryz.prog 78 #[.slice A ps.length cp] w fun e w' => ∃ v, e = .returned v ∧ Made w w' v (joinB ps) := by
  obtain ⟨i0, hi0, hz0, hz1, hz2⟩ := info_parts' info_u8'
  have qL := len_bytes
  have HP := Lib.hid hp
  obtain ⟨g, o, rfl, hc⟩ := h h0
  have HC := Lib.hid hc
  have HJl : Hid (∀ k, (joinB (ps.take k)).length ≤ 200200000) := by
    intro k
    have h1 := joinB_len (ps.take k) 10000 (fun p hq => hp p (List.mem_of_mem_take hq)) (by omega)
    have h2 : (ps.take k).length ≤ 10000 := by rw [List.length_take]; omega
    have h3 : (10 + 10000) * (ps.take k).length ≤ (10 + 10000) * 10000 := Nat.mul_le_mul_left _ h2
    omega
  clear hc h hp
  go_enter Tryz.func78, Tryz.ntmps78
  go_wp2
  go_loopw [3, 5, 8] (fun v _ i wr => ∃ k : Nat, k ≤ ps.length ∧ i = .int .i64 k ∧ Hid (wr.ownsRow w.heap.size 5 1 v (joinB (ps.take k)).length (bts (joinB (ps.take k)))) ∧ Hid (Fr Nob w wr)) (fun _ _ i _ => ps.length - (intOf i).toNat)
  case atStart => exact ⟨0, Nat.zero_le _, rfl, World.ownsRow_nil _ _ _ _, Fr.refl _ _⟩
  case round =>
    obtain ⟨k, hk, rfl, ho, hF⟩ := hrel
    have hnl := HJl.out k
    by_cases hlt : k < ps.length
    · obtain ⟨gp, op, c, c0, hbp⟩ := HC.out k _ (List.getElem?_eq_getElem hlt)
      have hcl := cell_lt c0
      rw [← hF.out.cell hcl (fun h => h)] at c0
      have hpl := HP.out _ (List.getElem_mem hlt)
      have hnt := joinB_take ps k hlt
      obtain ⟨p, hpp⟩ : ∃ p, ps[k] = p := ⟨_, rfl⟩
      rw [hpp] at c0 hpl hnt hbp
      have HNt := Lib.hid hnt
      have HBp := Lib.hid hbp
      obtain ⟨bs, hbs⟩ : ∃ bs, joinB (ps.take k) = bs := ⟨_, rfl⟩
      rw [hbs] at ho hnl HNt
      obtain ⟨pl, hpln⟩ : ∃ n, p.length = n := ⟨_, rfl⟩
      have HPn := Lib.hid hpln
      rw [hpln] at c0 hpl HNt
      have HU := Lib.hid (Uvar_any pl wr (by omega))
      have hul := uvar_le pl (by omega)
      have e64 : IntKind.u64.wrap (pl : Int) = (pl : Int) := by rw [IntKind.wrap_u64]; omega
      clear hpp hnt hbs hcl hpln hbp
      go_wp2_with fail
      refine HU.out.mono ?_
      rintro e w1 ⟨v1, rfl, g1, rfl, hb1, hg1, hg2, hf1⟩
      have hown := own_fr ho.out hf1 (fun _ _ h => h)
      have HF1 := Lib.hid (hF.out.trans hf1)
      obtain ⟨us, hus⟩ : ∃ us, uvar pl = us := ⟨_, rfl⟩
      rw [hus] at hb1 hul HNt ⊢
      have C1 : Hid ((bts us).length = us.length * 1) := by rw [Hid, bts_length]; omega
      have C2 : Hid (∀ j u, (bts us)[j]? = some u → w1.cell? ((⟨g1, 0, none⟩ : Addr).add j) = some u) := fun j u hu => bytesIn_cells hb1 j u hu
      have hsz := HF1.out.size
      have HO := Lib.hid hown
      clear hb1 hf1 hown ho HU hF hus
      have D1 : Hid ((bts p).length = pl * 1) := by rw [Hid, bts_length, HPn.out]; omega
      have hbu : (bs ++ us).length ≤ 200200010 := by rw [List.length_append]; omega
      go_wp2_with (at_builtin; first
        | (refine wpList_append_own_at _ rfl (.tmp 12) (.tmp 16) 40 rfl w.heap.size 5 i0 (.int .u8 0) 1 1 Tryz.underlying40 hi0 hz0 hz1 hz2 rfl (by decide) u3 bs.length (bts bs) rfl HO.out ⟨g1, 0, none⟩ us.length us.length (bts us) rfl C1.out C2.out (bts_one _) (by unfold maxLen; omega) (by omega) hsz ?_
           intro v7 w7 hown7 hg7 hn7 hat7
           have HO7 : Hid (w7.ownsRow w.heap.size 5 1 v7 (bs ++ us).length (bts (bs ++ us))) := by rw [List.length_append, bts_append]; exact hown7
           have HF7 : Hid (Fr Nob w w7) := Fr.grown HF1.out hg7 (fun r hr => .inl (HO.out.lt r hr).1)
           have hsz7 := HF7.out.size
           have D2 : Hid (∀ j u, (bts p)[j]? = some u → w7.cell? ((⟨gp, op, none⟩ : Addr).add j) = some u) := fun j u hu => bytesIn_cells (HBp.out.new HF7.out) j u hu
           clear hown7 hg7 hn7 hat7)
        | (refine wpList_append_own_at _ rfl (.tmp 18) (.tmp 19) 40 rfl w.heap.size 5 i0 (.int .u8 0) 1 1 Tryz.underlying40 hi0 hz0 hz1 hz2 rfl (by decide) v7 (bs ++ us).length (bts (bs ++ us)) rfl HO7.out ⟨gp, op, none⟩ pl c (bts p) rfl D1.out D2.out (bts_one _) (by unfold maxLen; omega) (by omega) hsz7 ?_
           intro v8 w8 hown8 hg8 hn8 hat8))
      have HO8 : Hid (w8.ownsRow w.heap.size 5 1 v8 (joinB (ps.take (k + 1))).length (bts (joinB (ps.take (k + 1))))) := by rw [HNt.out, List.length_append, bts_append, HPn.out]; exact hown8
      have HF8 : Hid (Fr Nob w w8) := Fr.grown HF7.out hg8 (fun r hr => .inl (HO7.out.lt r hr).1)
      clear hown8 hg8 hn8 hat8
      go_wp2
      go_roundw
      case rel => exact ⟨k + 1, by omega, by go_num, HO8, HF8⟩
      case measure => simp [intOf]; omega
    · obtain rfl : k = ps.length := by omega
      rw [List.take_length] at ho hnl
      have hpos : 0 < (joinB ps).length := by
        cases ps with
        | nil => simp at h0
        | cons p ps =>
          have := uvar_pos p.length
          simp only [joinB, List.flatMap_cons, List.length_append]
          omega
      obtain ⟨g7, cap, rfl, hgb, hgl⟩ := ho.out.form hpos
      have hcap : (joinB ps).length ≤ cap := by
        rcases ho.out.2 with ⟨e, _⟩ | ⟨_, _, _, e, _, _, h5, _⟩
        · cases e
        · injection e with _ _ e; omega
      have HB : Hid (BytesIn wr (some ⟨g7, 0, none⟩) (joinB ps)) := bytesIn_own ho.out
      obtain ⟨m, hm⟩ : ∃ m, (joinB ps).length = m := ⟨_, rfl⟩
      have HM := Lib.hid hm
      rw [hm] at hcap hpos hnl ⊢
      clear hm ho
      go_wp2
      try (rw [qL]; go_wp2)
      go_ret
      exact ⟨.slice (some ⟨g7, 0, none⟩) m m, rfl, g7, by rw [HM.out], HB.out, hgb, hgl, hF.out⟩
end Go.Proofs.YtfapklpcgcgahaaGreatDoor

/-
  The record of a write.
-/
namespace Go.Proofs.YtfapklpcgcgahaaGreatDoor
set_option linter.unusedSimpArgs false
set_option linter.unusedVariables false
open Go.RowKit

theorem bytesIn_short {w : World} {A : Option Addr} {l : List UInt8} (h : BytesIn w A l) : BytesIn w A (shortB l) := by
  have := bytesIn_take h (shortB l).length
  rwa [← shortB_eq] at this
theorem len_bytesT (w : World) (A : Option Addr) (n c : Nat) : (Builtin.len_ #[40] 3 #[Value.slice A n c]).run Tryz.prog w = .ok (.int .i64 n) w := by go_simp
set_option maxHeartbeats 3200000 in
set_option maxRecDepth 100000 in
theorem Update_any (no at_ : Nat) (ga oa gb ob ca cb n : Nat) (old b : List UInt8) (w : World) (ho : BytesIn w (some ⟨ga, oa, none⟩) old) (hb : BytesIn w (some ⟨gb, ob, none⟩) b) (h1 : no < 4096) (h2 : at_ ≤ 480) (h3 : n ≤ 480) (h4 : old.length = n) (h6 : b.length = n) (hca : n ≤ ca) (hcb : n ≤ cb) (hca2 : ca ≤ 9223372036854775807) (hcb2 : cb ≤ 9223372036854775807) :
    Calls Tryz.prog 44 #[.int .i64 no, .int .i64 at_, .slice (some ⟨ga, oa, none⟩) n ca, .slice (some ⟨gb, ob, none⟩) n cb] w fun e w' => ∃ g c, e = .returned (.slice (some ⟨g, 0, none⟩) (updB no at_ old b).length c) ∧ BytesIn w' (some ⟨g, 0, none⟩) (updB no at_ old b) ∧ w.heap.size ≤ g ∧ g < w'.heap.size ∧ Fr Nob w w' := by
  obtain ⟨i0, hi0, hz0, hz1, hz2⟩ := info_parts' info_u8'
  have qL := len_bytesT
  have HOld := Lib.hid ho
  have HB := Lib.hid hb
  have H4 := Lib.hid h4
  have H6 := Lib.hid h6
  clear ho hb h4 h6
  go_enter Tryz.func44, Tryz.ntmps44
  go_wp2_with fail
  have hO0 : (w.alloc (.cells #[.int .u8 1] 5)).ownsRow w.heap.size 5 1 (.slice (some ⟨w.heap.size, 0, none⟩) 1 1) ([1] : List UInt8).length (bts [1]) := RowB.lit w w.heap.size [1] (Nat.le_refl _) (by decide)
  have HO0 := Lib.hid hO0
  have HF0 : Hid (Fr Nob w (w.alloc (.cells #[.int .u8 1] 5))) := (Fr.refl _ w).alloc _
  clear hO0
  have HU1 := Lib.hid (Number_any no (w.alloc (.cells #[.int .u8 1] 5)) (by omega))
  refine HU1.out.mono ?_
  rintro e wn1 ⟨vn1, rfl, gn1, rfl, hb1, hga1, hgb1, hf1⟩
  have HOn1 := Lib.hid (own_fr HO0.out hf1 (fun _ _ h => h))
  have HFn1 := Lib.hid (HF0.out.trans hf1)
  have hul1 := uvar_le2 (x := no) (by omega)
  obtain ⟨ua, hua⟩ : ∃ us, uvar no = us := ⟨_, rfl⟩
  have Hua := Lib.hid hua
  rw [hua] at hb1 hul1
  rw [hua]
  have C11 : Hid ((bts ua).length = ua.length * 1) := by rw [Hid, bts_length]; omega
  have C21 : Hid (∀ j u, (bts ua)[j]? = some u → wn1.cell? ((⟨gn1, 0, none⟩ : Addr).add j) = some u) := fun j u hu => bytesIn_cells hb1 j u hu
  have hsz1 : w.heap.size ≤ wn1.heap.size := HFn1.out.size
  have hln1 : (([1] : List UInt8) ++ ua).length ≤ 3 := by rw [List.length_append]; first | omega | (simp only [List.length_cons, List.length_nil]; omega)
  clear hb1 hf1 hua HU1
  obtain ⟨v0, hv0⟩ : ∃ v, (.slice (some ⟨w.heap.size, 0, none⟩) 1 1 : Value) = v := ⟨_, rfl⟩
  rw [hv0] at HOn1 ⊢
  obtain ⟨bs0, hbs0⟩ : ∃ l, ([1] : List UInt8) = l := ⟨_, rfl⟩
  have hl0 : bs0.length ≤ 1 := by rw [← hbs0]; decide
  have HBs0 := Lib.hid hbs0
  rw [hbs0] at HOn1 hln1
  clear hv0 hbs0
  go_wp2_with (at_builtin; go_must (refine wpList_append_own_at _ rfl (.tmp 10) (.tmp 12) 40 rfl w.heap.size 5 i0 (.int .u8 0) 1 1 Tryz.underlying40 hi0 hz0 hz1 hz2 rfl (by decide) v0 (bs0).length (bts (bs0)) rfl HOn1.out ⟨gn1, 0, none⟩ ua.length ua.length (bts ua) rfl C11.out C21.out (bts_one _) (by unfold maxLen; omega) (by omega) hsz1 ?_); intro v2 w2 hown2 hg2 hn2 hat2; have HO2 : Hid (w2.ownsRow w.heap.size 5 1 v2 (bs0 ++ ua).length (bts (bs0 ++ ua))) := (by rw [List.length_append, bts_append]; exact hown2); have HF2 : Hid (Fr Nob w w2) := Fr.grown HFn1.out hg2 (fun r hr => .inl (HOn1.out.lt r hr).1); clear hown2 hg2 hn2 hat2)
  have HU3 := Lib.hid (Number_any at_ w2 (by omega))
  refine HU3.out.mono ?_
  rintro e wn3 ⟨vn3, rfl, gn3, rfl, hb3, hga3, hgb3, hf3⟩
  have HOn3 := Lib.hid (own_fr HO2.out hf3 (fun _ _ h => h))
  have HFn3 := Lib.hid (HF2.out.trans hf3)
  have hul3 := uvar_le2 (x := at_) (by omega)
  obtain ⟨ub, hub⟩ : ∃ us, uvar at_ = us := ⟨_, rfl⟩
  have Hub := Lib.hid hub
  rw [hub] at hb3 hul3
  rw [hub]
  have C13 : Hid ((bts ub).length = ub.length * 1) := by rw [Hid, bts_length]; omega
  have C23 : Hid (∀ j u, (bts ub)[j]? = some u → wn3.cell? ((⟨gn3, 0, none⟩ : Addr).add j) = some u) := fun j u hu => bytesIn_cells hb3 j u hu
  have hsz3 : w.heap.size ≤ wn3.heap.size := HFn3.out.size
  have hln3 : ((bs0 ++ ua) ++ ub).length ≤ 5 := by rw [List.length_append]; first | omega | (simp only [List.length_cons, List.length_nil]; omega)
  clear hb3 hf3 hub HU3
  go_wp2_with (at_builtin; go_must (refine wpList_append_own_at _ rfl (.tmp 14) (.tmp 16) 40 rfl w.heap.size 5 i0 (.int .u8 0) 1 1 Tryz.underlying40 hi0 hz0 hz1 hz2 rfl (by decide) v2 ((bs0 ++ ua)).length (bts ((bs0 ++ ua))) rfl HOn3.out ⟨gn3, 0, none⟩ ub.length ub.length (bts ub) rfl C13.out C23.out (bts_one _) (by unfold maxLen; omega) (by omega) hsz3 ?_); intro v4 w4 hown4 hg4 hn4 hat4; have HO4 : Hid (w4.ownsRow w.heap.size 5 1 v4 ((bs0 ++ ua) ++ ub).length (bts ((bs0 ++ ua) ++ ub))) := (by rw [List.length_append, bts_append]; exact hown4); have HF4 : Hid (Fr Nob w w4) := Fr.grown HFn3.out hg4 (fun r hr => .inl (HOn3.out.lt r hr).1); clear hown4 hg4 hn4 hat4)
  have HU5 := Lib.hid (Number_any n w4 (by omega))
  refine HU5.out.mono ?_
  rintro e wn5 ⟨vn5, rfl, gn5, rfl, hb5, hga5, hgb5, hf5⟩
  have HOn5 := Lib.hid (own_fr HO4.out hf5 (fun _ _ h => h))
  have HFn5 := Lib.hid (HF4.out.trans hf5)
  have hul5 := uvar_le2 (x := n) (by omega)
  obtain ⟨uc, huc⟩ : ∃ us, uvar n = us := ⟨_, rfl⟩
  have Huc := Lib.hid huc
  rw [huc] at hb5 hul5
  rw [huc]
  have C15 : Hid ((bts uc).length = uc.length * 1) := by rw [Hid, bts_length]; omega
  have C25 : Hid (∀ j u, (bts uc)[j]? = some u → wn5.cell? ((⟨gn5, 0, none⟩ : Addr).add j) = some u) := fun j u hu => bytesIn_cells hb5 j u hu
  have hsz5 : w.heap.size ≤ wn5.heap.size := HFn5.out.size
  have hln5 : ((bs0 ++ ua ++ ub) ++ uc).length ≤ 7 := by rw [List.length_append]; first | omega | (simp only [List.length_cons, List.length_nil]; omega)
  clear hb5 hf5 huc HU5
  go_wp2_with (at_builtin; go_must (refine wpList_append_own_at _ rfl (.tmp 18) (.tmp 21) 40 rfl w.heap.size 5 i0 (.int .u8 0) 1 1 Tryz.underlying40 hi0 hz0 hz1 hz2 rfl (by decide) v4 ((bs0 ++ ua ++ ub)).length (bts ((bs0 ++ ua ++ ub))) rfl HOn5.out ⟨gn5, 0, none⟩ uc.length uc.length (bts uc) rfl C15.out C25.out (bts_one _) (by unfold maxLen; omega) (by omega) hsz5 ?_); intro v6 w6 hown6 hg6 hn6 hat6; have HO6 : Hid (w6.ownsRow w.heap.size 5 1 v6 ((bs0 ++ ua ++ ub) ++ uc).length (bts ((bs0 ++ ua ++ ub) ++ uc))) := (by rw [List.length_append, bts_append]; exact hown6); have HF6 : Hid (Fr Nob w w6) := Fr.grown HFn5.out hg6 (fun r hr => .inl (HOn5.out.lt r hr).1); clear hown6 hg6 hn6 hat6)
  have hsh := Short_any (some ⟨ga, oa, none⟩) ca old w6 (HOld.out.new HF6.out) (by rw [H4.out]; omega) hca2
  rw [H4.out] at hsh
  have HSh := Lib.hid hsh
  have hso := shortB_le old
  rw [H4.out] at hso
  have hfj : Fr Nob w6 (w6.alloc (.cells #[.slice (some ⟨ga, oa, none⟩) (shortB old).length ca] 40)) := (Fr.refl _ w6).alloc _
  have hpj : PartsIn (w6.alloc (.cells #[.slice (some ⟨ga, oa, none⟩) (shortB old).length ca] 40)) (some ⟨w6.heap.size, 0, none⟩) [shortB old] := fun _ => ⟨w6.heap.size, 0, rfl, fun j p hp => by
    have hj : j = 0 := by
      have := (List.getElem?_eq_some_iff.1 hp).1
      simp at this; exact this
    subst hj
    simp only [List.getElem?_cons_zero, Option.some.injEq] at hp
    subst hp
    exact ⟨ga, oa, ca, by rw [(Blk.new w6 _ _).cell]; rfl, bytesIn_short ((HOld.out.new HF6.out).new hfj)⟩⟩
  have hjn := Join_any (some ⟨w6.heap.size, 0, none⟩) 1 [shortB old] _ hpj (by simp) (by simp) (fun p hp => by rw [List.mem_singleton] at hp; subst hp; omega)
  have hje : joinB [shortB old] = uvar (shortB old).length ++ shortB old := by simp [joinB]
  rw [hje] at hjn
  have HJn := Lib.hid hjn
  have HFj := Lib.hid (HF6.out.trans hfj)
  have HOj := Lib.hid (own_fr HO6.out hfj (fun _ _ h => h))
  clear hsh hjn hje hpj hfj
  refine HSh.out.mono ?_
  rintro e w7 ⟨rfl, rfl⟩
  go_wp2_with fail
  refine HJn.out.mono ?_
  rintro e w8 ⟨v8, rfl, g8, rfl, hb8, hga8, hgb8, hf8⟩
  have HO8 := Lib.hid (own_fr HOj.out hf8 (fun _ _ h => h))
  have HF8 := Lib.hid (HFj.out.trans hf8)
  have hul8 := uvar_le2 (x := (shortB old).length) (by omega)
  have hjl : (uvar (shortB old).length ++ shortB old).length ≤ n + 2 := by rw [List.length_append]; omega
  obtain ⟨ud, hud⟩ : ∃ us, uvar (shortB old).length ++ shortB old = us := ⟨_, rfl⟩
  have Hud := Lib.hid hud
  rw [hud] at hb8 hjl ⊢
  have C18 : Hid ((bts ud).length = ud.length * 1) := by rw [Hid, bts_length]; omega
  have C28 : Hid (∀ j u, (bts ud)[j]? = some u → w8.cell? ((⟨g8, 0, none⟩ : Addr).add j) = some u) := fun j u hu => bytesIn_cells hb8 j u hu
  have hsz8 : w.heap.size ≤ w8.heap.size := HF8.out.size
  have hln8 : ((bs0 ++ ua ++ ub ++ uc) ++ ud).length ≤ n + 9 := by rw [List.length_append]; omega
  clear hb8 hf8 hud HJn HOj hul8
  go_wp2_with (at_builtin; go_must (refine wpList_append_own_at _ rfl (.tmp 23) (.tmp 27) 40 rfl w.heap.size 5 i0 (.int .u8 0) 1 1 Tryz.underlying40 hi0 hz0 hz1 hz2 rfl (by decide) v6 ((bs0 ++ ua ++ ub ++ uc)).length (bts ((bs0 ++ ua ++ ub ++ uc))) rfl HO8.out ⟨g8, 0, none⟩ ud.length ud.length (bts ud) rfl C18.out C28.out (bts_one _) (by unfold maxLen; omega) (by omega) hsz8 ?_); intro v9 w9 hown9 hg9 hn9 hat9; have HO9 : Hid (w9.ownsRow w.heap.size 5 1 v9 ((bs0 ++ ua ++ ub ++ uc) ++ ud).length (bts ((bs0 ++ ua ++ ub ++ uc) ++ ud))) := (by rw [List.length_append, bts_append]; exact hown9); have HF9 : Hid (Fr Nob w w9) := Fr.grown HF8.out hg9 (fun r hr => .inl (HO8.out.lt r hr).1); clear hown9 hg9 hn9 hat9)
  have hsh := Short_any (some ⟨gb, ob, none⟩) cb b w9 (HB.out.new HF9.out) (by rw [H6.out]; omega) hcb2
  rw [H6.out] at hsh
  have HSh2 := Lib.hid hsh
  have hsb := shortB_le b
  rw [H6.out] at hsb
  have hbs : BytesIn w9 (some ⟨gb, ob, none⟩) (shortB b) := bytesIn_short (HB.out.new HF9.out)
  clear hsh
  refine HSh2.out.mono ?_
  rintro e w10 ⟨rfl, rfl⟩
  obtain ⟨ue, hue⟩ : ∃ us, shortB b = us := ⟨_, rfl⟩
  have Hue := Lib.hid hue
  rw [hue] at hbs hsb ⊢
  have C1e : Hid ((bts ue).length = ue.length * 1) := by rw [Hid, bts_length]; omega
  have C2e : Hid (∀ j u, (bts ue)[j]? = some u → w9.cell? ((⟨gb, ob, none⟩ : Addr).add j) = some u) := fun j u hu => bytesIn_cells hbs j u hu
  have hsze : w.heap.size ≤ w9.heap.size := HF9.out.size
  clear hbs hue HSh2
  go_wp2_with (at_builtin; go_must (refine wpList_append_own_at _ rfl (.tmp 29) (.tmp 31) 40 rfl w.heap.size 5 i0 (.int .u8 0) 1 1 Tryz.underlying40 hi0 hz0 hz1 hz2 rfl (by decide) v9 ((bs0 ++ ua ++ ub ++ uc ++ ud)).length (bts ((bs0 ++ ua ++ ub ++ uc ++ ud))) rfl HO9.out ⟨gb, ob, none⟩ ue.length cb (bts ue) rfl C1e.out C2e.out (bts_one _) (by unfold maxLen; omega) (by omega) hsze ?_); intro v11 w11 hown11 hg11 hn11 hat11; have HO11 : Hid (w11.ownsRow w.heap.size 5 1 v11 ((bs0 ++ ua ++ ub ++ uc ++ ud) ++ ue).length (bts ((bs0 ++ ua ++ ub ++ uc ++ ud) ++ ue))) := (by rw [List.length_append, bts_append]; exact hown11); have HF11 : Hid (Fr Nob w w11) := Fr.grown HF9.out hg11 (fun r hr => .inl (HO9.out.lt r hr).1); clear hown11 hg11 hn11 hat11)
  go_wp2
  have hE : bs0 ++ ua ++ ub ++ uc ++ ud ++ ue = updB no at_ old b := by
    rw [← HBs0.out, ← Hua.out, ← Hub.out, ← Huc.out, ← Hud.out, ← Hue.out, updB, H6.out]
  have hpos : 0 < (bs0 ++ ua ++ ub ++ uc ++ ud ++ ue).length := by rw [hE]; simp [updB]
  obtain ⟨g7, cap, hv, hgb7, hgl7⟩ := HO11.out.form hpos
  have ho := HO11.out
  rw [hv] at ho
  have hbi := bytesIn_own ho
  rw [hE] at hbi
  rw [hE] at hv
  go_ret
  exact ⟨g7, cap, by rw [hv]; rfl, hbi, hgb7, hgl7, HF11.out⟩
end Go.Proofs.YtfapklpcgcgahaaGreatDoor
