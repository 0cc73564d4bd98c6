/-
  Wal6, OwnF, WalRep, Wal4, in one text.
-/
import Derived.Test.YtccmmnacejdeoaaGreatDoorMg06
import Derived.Laws.BytesArg
import Derived.Shelf.Bytes.SlSmallAll
import Derived.Deep.QuietTactic
import Derived.BigQuiet
import Derived.Test.YtccmmnacejdeoaaGreatDoorMg01
import Derived.ArgAppend
import Derived.Test.YtccmmnacejdeoaaGreatDoorMg05
/-
  bytes.Equal, and what parse tells of a sector.
-/
namespace Go.Proofs.YtccmmnacejdeoaaGreatDoor
set_option linter.unusedSimpArgs false
set_option linter.unusedVariables false
open Go.RowKit

theorem Equal_any (A B : Option Addr) (c d : Nat) (a b : List UInt8) (w : World) (ha : BytesIn w A a) (hb : BytesIn w B b) :
    Calls Tryz.prog 60 #[.slice A a.length c, .slice B b.length d] w fun e w' => e = .returned (.bool (a == b)) ∧ w = w' := by
  have q1 := conv_in ha c
  have q2 := conv_in hb d
  clear ha hb
  go_enter Tryz.func60, Tryz.ntmps60
  go_wp2
  go_ret
  exact ⟨rfl, rfl⟩

theorem quiet_eq {P : Program} {f : FuncId} {args : Array Value} {w : World} {n : Nat} {v : Value} (h : Calls P f args (w.drewN n) fun e w' => e = .returned v ∧ w.drewN n = w') :
    Calls P f args (w.drewN n) fun e w'' => e = .returned v ∧ ∃ m, w'' = w.drewN m := h.mono fun _ _ ⟨he, hm⟩ => ⟨he, n, hm.symm⟩

theorem results_tmp4 {fn : Func} {t u v x : Tmp} (h : fn.results = #[.tmp t, .tmp u, .tmp v, .tmp x]) (tmps : Array Value) (P : Program) (w : World) :
    (results fn tmps).run P w = .ok (.tuple #[tmps.getD t undef, tmps.getD u undef, tmps.getD v undef, tmps.getD x undef]) w := by
  simp [results, h]

/-- What a sector's bytes say. -/
def pNo (b : List UInt8) : Nat := getN ((b.drop 0).take 5)
def pLife (b : List UInt8) : Nat := getN ((b.drop 5).take 6)
def pN (b : List UInt8) : Nat := (b.getD 11 0).toNat
def pOwn (b : List UInt8) : List UInt8 := (b.drop 16).take (pN b)
def pOk (b : List UInt8) : Bool := decide (0 < pN b) && (sectB (pNo b) (pLife b) (pOwn b) == b)

/-- What parse hands back of a sector in block g. -/
def parsed (g : Nat) (b : List UInt8) : Value := if 48 < pN b then .tuple #[.int .u64 0, .int .u64 0, .slice none 0 0, .bool false] else .tuple #[.int .u64 (pNo b), .int .u64 (pLife b), .slice (some ⟨g, 16, none⟩) (pN b) 48, .bool (pOk b)]

theorem get_part {w : World} {g : Nat} {t : List UInt8} (h : Blk w g 5 (bts t).toArray) (o n c : Nat) (ho : o + n ≤ t.length) (hn : n ≤ 64) :
    Calls Tryz.prog 67 #[.slice (some ⟨g, o, none⟩) n c] w fun e w' => e = .returned (.int .u64 (getN ((t.drop o).take n))) ∧ w = w' := by
  have hl : ((t.drop o).take n).length = n := by rw [List.length_take, List.length_drop]; omega
  have := get_any (some ⟨g, o, none⟩) c ((t.drop o).take n) w (bytesIn_part h o n) (by omega)
  rwa [hl] at this

set_option maxHeartbeats 800000 in
set_option maxRecDepth 100000 in
theorem parse_any (g : Nat) (b : List UInt8) (w : World) (hb : Blk w g 5 (bts b).toArray) (hl : b.length = 64) :
    Calls Tryz.prog 71 #[.slice (some ⟨g, 0, none⟩) 64 64] w fun e w' =>
      e = .returned (parsed g b) ∧ Fr Nob w w' := by
  have H := Lib.hid hb
  have hg : g < w.heap.size := hb.lt
  have c11 : w.cell? ⟨g, 11, none⟩ = some (.int .u8 (pN b)) := by
    rw [hb.cell, List.getElem?_toArray, bts_get, List.getElem?_eq_getElem (by omega)]
    simp [pN, List.getD, List.getElem?_eq_getElem (show 11 < b.length by omega)]
  have hG : ∀ n o m c, o + m ≤ 64 → m ≤ 64 → Calls Tryz.prog 67 #[.slice (some ⟨g, o, none⟩) m c] (w.drewN n) fun e w' => e = .returned (.int .u64 (getN ((b.drop o).take m))) ∧ w.drewN n = w' :=
    fun n o m c h1 h2 => get_part (hb.drewN n) o m c (by omega) h2
  have HG := Lib.hid hG
  have hn : pN b < 256 := UInt8.toNat_lt _
  have HL := Lib.hid hl
  clear hb hG hl
  go_enter Tryz.func71, Tryz.ntmps71
  go_wp2
  go_quiet ((go_at_call 67; exact quiet_eq (HG.out _ _ _ _ (by omega) (by omega))))
  have e0 : getN ((b.drop 0).take 5) = pNo b := rfl
  have e1 : getN ((b.drop 5).take 6) = pLife b := rfl
  rw [e0, e1]
  have HF : Hid (Fr Nob w (w.drewN nq)) := (Fr.refl _ w).drewN nq
  have HB : Hid (Blk (w.drewN nq) g 5 (bts b).toArray) := H.out.drewN nq
  have c11' : (w.drewN nq).cell? ⟨g, 11, none⟩ = some (.int .u8 (pN b)) := c11
  have hg' : g < (w.drewN nq).heap.size := hg
  clear e0 e1 c11 H HG hg
  generalize w.drewN nq = w1 at *
  by_cases h48 : 48 < pN b
  · go_wp2
    (try simp only [Exit.inBlock, Exit.then])
    refine bodyPost_ret (results_tmp4 rfl _ _ _) rfl ?_
    have : parsed g b = _ := if_pos h48
    rw [this]
    exact ⟨rfl, HF.out⟩
  · by_cases h0 : 0 < pN b
    · have hno := getN_lt ((b.drop 0).take 5)
      have hli := getN_lt ((b.drop 5).take 6)
      have hol : (pOwn b).length = pN b := by unfold pOwn; rw [List.length_take, List.length_drop, HL.out]; omega
      have HI : Hid (BytesIn w1 (some ⟨g, 16, none⟩) (pOwn b)) := bytesIn_part HB.out 16 (pN b)
      have hsec := sector_any (pNo b) (pLife b) (some ⟨g, 16, none⟩) 48 (pOwn b) w1 HI.out (by omega) hno hli
      rw [hol] at hsec
      have HS := Lib.hid hsec
      have HLs := Lib.hid (sectB_length (pNo b) (pLife b) (pOwn b) (by omega))
      have HOk : Hid (pOk b = (sectB (pNo b) (pLife b) (pOwn b) == b)) := by
        show _ = _
        unfold pOk; rw [decide_eq_true h0, Bool.true_and]
      have hrw : parsed g b = .tuple #[.int .u64 (pNo b), .int .u64 (pLife b), .slice (some ⟨g, 16, none⟩) (pN b) 48, .bool (pOk b)] := if_neg h48
      have HRw := Lib.hid hrw
      clear hno hli hol hsec hrw
      generalize sectB (pNo b) (pLife b) (pOwn b) = sb at *
      go_wp2_with fail
      refine HS.out.mono ?_
      rintro e w2 ⟨rfl, hb2, hf2⟩
      have heq := Equal_any (some ⟨w1.heap.size, 0, none⟩) (some ⟨g, 0, none⟩) 64 64 sb b w2 (bytesIn_of hb2) (bytesIn_of (HB.out.fr hf2 (fun h => h)))
      rw [HLs.out, HL.out] at heq
      have HE := Lib.hid heq
      have HF2 := Lib.hid (HF.out.trans hf2)
      clear heq hb2 hf2
      go_wp2_with fail
      refine HE.out.mono ?_
      rintro e w3 ⟨rfl, rfl⟩
      go_wp2
      (try simp only [Exit.inBlock, Exit.then])
      refine bodyPost_ret (results_tmp4 rfl _ _ _) rfl ?_
      rw [HRw.out, HOk.out]
      exact ⟨rfl, HF2.out⟩
    · go_wp2
      (try simp only [Exit.inBlock, Exit.then])
      refine bodyPost_ret (results_tmp4 rfl _ _ _) rfl ?_
      have h1 : pOk b = false := by unfold pOk; rw [decide_eq_false h0]; rfl
      have : parsed g b = _ := if_neg h48
      rw [this, h1, show 16 + pN b - 16 = pN b from by omega]
      exact ⟨rfl, HF.out⟩
end Go.Proofs.YtccmmnacejdeoaaGreatDoor

/-
  A row that begins anywhere within its block: what was cut lies ahead of it.
-/
namespace Go.Proofs.YtccmmnacejdeoaaGreatDoor
set_option linter.unusedSimpArgs false
set_option linter.unusedVariables false
open Go.RowKit


/-- The slice v has n elements, the cells xs, in a block that is not shared. -/
def OwnF (w : World) (e : TypeId) (size : Nat) (v : Value) (n : Nat) (xs : List Value) : Prop :=
  xs.length = n * size ∧
  ((v = .slice none 0 0 ∧ n = 0) ∨
   ∃ g o cap cur, v = .slice (some ⟨g, o, none⟩) n cap ∧ Blk w g e cur ∧ n ≤ cap ∧ cap ≤ maxLen ∧ o + cap * size ≤ cur.size ∧ (cur.toList.drop o).take (n * size) = xs)

section
variable {w w' : World} {e : TypeId} {size n : Nat} {v : Value} {xs : List Value} {F : Nat → Prop}
theorem OwnF.of {base : Nat} (h : w.ownsRow base e size v n xs) : OwnF w e size v n xs := by
  refine ⟨h.1, h.2.imp id ?_⟩
  rintro ⟨g, cap, cur, rfl, _, hh, h1, h2, h3, h4⟩
  exact ⟨g, 0, cap, cur, rfl, hh, h1, h2, by omega, h4⟩
theorem OwnF.fr (h : OwnF w e size v n xs) (hf : Fr F w w') (hv : ∀ g, v.ownBlock = some g → ¬ F g) : OwnF w' e size v n xs := by
  refine ⟨h.1, ?_⟩
  rcases h.2 with h2 | ⟨g, o, cap, cur, rfl, hh, r⟩
  · exact .inl h2
  · exact .inr ⟨g, o, cap, cur, rfl, hh.fr hf (hv g rfl), r⟩
theorem Blk.ownF_ne {g : Nat} {t : TypeId} {cs : Array Value} (hg : Blk w g t cs) (h : OwnF w e size v n xs) (hne : t ≠ e) : some g ≠ v.ownBlock := by
  rcases h.2 with ⟨rfl, _⟩ | ⟨g', o, cap, cur, rfl, hh, _⟩
  · simp [Value.ownBlock]
  · intro he
    have he' : g = g' := by simpa [Value.ownBlock] using he
    subst he'
    exact Blk.ne_ (t := t) hg hh hne rfl
theorem OwnF.set_ {g : Nat} {t : TypeId} {cs : Array Value} {i : Nat} {u : Value} (h : OwnF w e size v n xs) (hb : Blk w g t cs) (hne : t ≠ e) : OwnF (w.setCell ⟨g, i, none⟩ u) e size v n xs :=
  h.fr ((Fr.refl (fun k => k = g) w).setCell (.inr rfl) u) (fun g' hv he => by subst he; exact Blk.ownF_ne hb h hne (by rw [hv]))
theorem OwnF.blk (h : OwnF w e size v n xs) {g : Nat} (hv : v.ownBlock = some g) : ∃ cs, Blk w g e cs := by
  rcases h.2 with ⟨rfl, _⟩ | ⟨g', o, cap, cur, rfl, hh, _⟩
  · simp [Value.ownBlock] at hv
  · have : g' = g := by simpa [Value.ownBlock] using hv
    subst this
    exact ⟨cur, hh⟩
theorem OwnF.lt (h : OwnF w e size v n xs) {g : Nat} (hv : v.ownBlock = some g) : g < w.heap.size := by
  obtain ⟨_, hb⟩ := h.blk hv
  exact hb.lt
theorem OwnF.form (h : OwnF w e size v n xs) (hn : 0 < n) : ∃ g o cap, v = .slice (some ⟨g, o, none⟩) n cap ∧ g < w.heap.size ∧ n ≤ cap ∧ cap ≤ maxLen := by
  rcases h.2 with ⟨_, h0⟩ | ⟨g, o, cap, cur, hv, hb, h1, h2, _⟩
  · omega
  · exact ⟨g, o, cap, hv, hb.lt, h1, h2⟩
theorem OwnF.cellAt {g o cap : Nat} (h : OwnF w e size (.slice (some ⟨g, o, none⟩) n cap) n xs) (j : Nat) (hj : j < n * size) : w.cell? ⟨g, o + j, none⟩ = xs[j]? := by
  rcases h.2 with ⟨h', _⟩ | ⟨g', o', cap', cur, h', hg, _, _, _, htake⟩
  · simp at h'
  · simp only [Value.slice.injEq, Option.some.injEq, Addr.mk.injEq, and_true, true_and] at h'
    obtain ⟨⟨rfl, rfl⟩, rfl⟩ := h'
    rw [hg.cell, ← htake, List.getElem?_take, if_pos hj, List.getElem?_drop, Array.getElem?_toList]
theorem OwnF.alloc (h : OwnF w e size v n xs) (o : Obj) : OwnF (w.alloc o) e size v n xs := h.fr ((Fr.refl Nob w).alloc o) (fun _ _ h => h)
/-- What lies from a place on. -/
theorem OwnF.cut {g o cap : Nat} (h : OwnF w e size (.slice (some ⟨g, o, none⟩) n cap) n xs) (k : Nat) (hk : k ≤ n) : OwnF w e size (.slice (some ⟨g, o + k * size, none⟩) (n - k) (cap - k)) (n - k) (xs.drop (k * size)) := by
  rcases h.2 with ⟨h', _⟩ | ⟨g', o', cap', cur, h', hg, h1, h2, h3, htake⟩
  · simp at h'
  · simp only [Value.slice.injEq, Option.some.injEq, Addr.mk.injEq, and_true, true_and] at h'
    obtain ⟨⟨rfl, rfl⟩, rfl⟩ := h'
    refine ⟨by rw [List.length_drop, h.1, Nat.sub_mul], .inr ⟨g, o + k * size, cap - k, cur, rfl, hg, by omega, by omega, ?_, ?_⟩⟩
    · rw [Nat.sub_mul]
      have : k * size ≤ cap * size := Nat.mul_le_mul_right _ (by omega)
      omega
    · rw [← htake, ← List.drop_drop, List.drop_take, Nat.sub_mul]
end

section
variable {P : Program} (w : World)
theorem run_append_roomF (t ty e : TypeId) (i : TypeInfo) (ht : P.underlying t = some (.slice e)) (hi : P.info? e = some i)
    (g o sLen sCap : Nat) (cur : Array Value) (hg : w.heap[g]? = some (.cells cur e (0, 0)))
    (a : Addr) (m c : Nat) (news : List Value) (hl : news.length = m * i.size) (hnews : ∀ j u, news[j]? = some u → w.cell? (a.add j) = some u) (h1 : ∀ u ∈ news, u.oneCell' = true)
    (hroom : sLen + m ≤ sCap) (hfit : o + sLen * i.size + news.length ≤ cur.size) :
    (Builtin.append_ #[t, t] ty #[.slice (some ⟨g, o, none⟩) sLen sCap, .slice (some a) m c]).run P w =
      .ok (.slice (some ⟨g, o, none⟩) (sLen + m) sCap) (w.setRow g (cur.toList.take (o + sLen * i.size) ++ news ++ cur.toList.drop (o + sLen * i.size + news.length)).toArray) := by
  have hf := run_firstCells_some (P := P) w i.size m a m c news hl hnews
  have hst := run_storeCells_at P g (o + sLen * i.size) e news 0 cur w hg (by simpa using hfit) h1
  simp only [Nat.add_zero] at hst
  simp [Builtin.append_, run_underlying ht, sizeOf, typeInfo, hi, Builtin.lenOf, hroom, hf, Addr.add_lit, hst]

theorem run_appendF (t ty e : TypeId) (i : TypeInfo) (z : Value) (size bytes : Nat) (ht : P.underlying t = some (.slice e)) (hi : P.info? e = some i) (hz : i.zero = some z)
    (hsize : i.size = size) (hby : i.bytes = bytes) (hzs : z.cells.size = size) (hsz : 0 < size)
    (v : Value) (n : Nat) (xs : List Value) (hown : OwnF w e size v n xs)
    (a : Addr) (m c : Nat) (news : List Value) (hm : 0 < m) (hl : news.length = m * size) (hnews : ∀ j u, news[j]? = some u → w.cell? (a.add j) = some u) (h1 : ∀ u ∈ news, u.oneCell' = true)
    (h63 : n + m ≤ maxLen) (hbytes : (n + m) * bytes ≤ 140737488355328) :
    ∃ v' w', (Builtin.append_ #[t, t] ty #[v, .slice (some a) m c]).run P w = .ok v' w' ∧ OwnF w' e size v' (n + m) (xs ++ news) ∧ w.grownBy w' v.ownBlock ∧
      (v'.ownBlock = v.ownBlock ∨ ∀ g, v'.ownBlock = some g → w.heap.size ≤ g) := by
  subst hsize
  subst hby
  rcases hown.2 with ⟨rfl, rfl⟩ | ⟨g, o, cap, cur, rfl, hg, hnc, hcm, hcs, htake⟩
  · obtain ⟨v', w', r1, r2, r3, _, r5⟩ := run_append_own_at (P := P) w 0 t ty e i z i.size i.bytes ht hi hz rfl rfl hzs hsz (.slice none 0 0) 0 xs ⟨hown.1, .inl ⟨rfl, rfl⟩⟩ a m c news hl hnews h1 h63 hbytes (Nat.zero_le _)
    exact ⟨v', w', r1, .of r2, r3, r5.imp id (fun h g hg => by rw [h] at hg; injection hg with hg; omega)⟩
  · by_cases hroom : n + m ≤ cap
    · have hfit : o + n * i.size + news.length ≤ cur.size := by
        rw [hl]
        have := Nat.mul_le_mul_right i.size hroom
        rw [Nat.add_mul] at this
        omega
      have hr := run_append_roomF (P := P) w t ty e i ht hi g o n cap cur hg a m c news hl hnews h1 hroom hfit
      have hxl := hown.1
      refine ⟨_, _, hr, ⟨by rw [List.length_append, hl, hxl, Nat.add_mul], .inr ⟨g, o, cap, _, rfl, setRow_heap w g cur _ e _ hg, hroom, hcm, ?_, ?_⟩⟩, ⟨rfl, rfl, rfl, by simp, fun k _ hk => setRow_other w g k _ (fun e => hk (by simp [Value.ownBlock, e]))⟩, Or.inl rfl⟩
      · simp only [List.size_toArray, List.length_append, List.length_take, List.length_drop, Array.length_toList]
        omega
      · have e1 : cur.toList.take (o + n * i.size) = cur.toList.take o ++ xs := by rw [List.take_add, htake]
        have ho : (cur.toList.take o).length = o := by rw [List.length_take, Array.length_toList]; omega
        simp only [e1, List.append_assoc]
        rw [List.drop_append_of_le_length (by omega), List.drop_eq_nil_of_le (by omega), List.nil_append, ← List.append_assoc]
        exact List.take_left' (by rw [List.length_append, hl, hxl, Nat.add_mul])
    · have holds : ∀ j u, xs[j]? = some u → w.cell? ((⟨g, o, none⟩ : Addr).add j) = some u := by
        intro j u hu
        rw [Addr.add_lit]
        have hj : j < n * i.size := by rw [← hown.1]; exact (List.getElem?_eq_some_iff.1 hu).1
        rw [hown.cellAt j hj, hu]
      obtain ⟨v', w', r1, r2, r3⟩ := run_append_arg_grows (P := P) w t ty e i z i.size i.bytes ht hi hz rfl rfl hzs hsz ⟨g, o, none⟩ n cap xs hown.1 holds a m c news hl hnews (by omega) h63 hbytes
      exact ⟨v', w', r1, .of r2, ⟨r3.os, r3.tape, r3.output, r3.size, fun k hk _ => r3.block k hk (by simp)⟩, .inr (fun g hg => (r2.lt g hg).1)⟩
end
end Go.Proofs.YtccmmnacejdeoaaGreatDoor

/-
  How a log lies in memory.
-/
namespace Go.Proofs.YtccmmnacejdeoaaGreatDoor
set_option linter.unusedSimpArgs false
set_option linter.unusedVariables false
open Go.RowKit

/-- A log, as its fields have it (its disk apart). -/
structure LS where
  start : Nat
  n : Nat
  first : Nat
  next : Nat
  flushed : Nat
  l : List (List UInt8 × Nat)
  fin : Nat
  kept : Nat
  life : Nat
  turn : Nat
  room : Int

def recCells (rv : List (Value × Nat)) : List Value := rv.flatMap fun x => [x.1, .int .u64 x.2]
theorem recCells_snoc (rv : List (Value × Nat)) (x : Value × Nat) : recCells (rv ++ [x]) = recCells rv ++ [x.1, .int .u64 x.2] := by simp [recCells]
theorem recCells_get (rv : List (Value × Nat)) (k : Nat) (h : k < rv.length) : (recCells rv)[k * 2]? = some rv[k].1 ∧ (recCells rv)[k * 2 + 1]? = some (.int .u64 rv[k].2) := by
  induction rv generalizing k with
  | nil => simp at h
  | cons x rv ih =>
    cases k with
    | zero => simp [recCells]
    | succ k =>
      have hk : k < rv.length := by simpa using h
      have := ih k hk
      simp only [recCells, List.flatMap_cons, List.cons_append, List.nil_append] at this ⊢
      rw [show (k + 1) * 2 = k * 2 + 1 + 1 from by omega]
      simpa using this

/-- The bytes of a record, in a block of their own within R. -/
def RecIn (R : Nat → Prop) (w : World) (v : Value) (b : List UInt8) : Prop :=
  w.ownsRow 0 5 1 v b.length (bts b) ∧ ∀ g, v.ownBlock = some g → R g
theorem RecIn.fr {R F : Nat → Prop} {w w' : World} {v : Value} {b : List UInt8} (h : RecIn R w v b) (hf : Fr F w w') (hd : ∀ g, R g → g < w.heap.size → ¬ F g) : RecIn R w' v b :=
  ⟨own_fr h.1 hf (fun g hg => hd g (h.2 g hg) (own_lt h.1 hg)), h.2⟩
/-- Kept where only rows of other kinds change. -/
theorem RecIn.far {R F : Nat → Prop} {w w' : World} {v : Value} {b : List UInt8} (h : RecIn R w v b) (hf : Fr F w w') (hd : ∀ g, F g → g < w.heap.size → ∃ t cs, Blk w g t cs ∧ t ≠ 5) : RecIn R w' v b :=
  ⟨own_fr h.1 hf (fun g hg hF => by
    obtain ⟨t, cs, hb, ht⟩ := hd g hF (own_lt h.1 hg)
    exact Blk.own_ne hb h.1 ht (by rw [hg])), h.2⟩
theorem RecIn.more {R R' : Nat → Prop} {w : World} {v : Value} {b : List UInt8} (h : RecIn R w v b) (hd : ∀ g, R g → R' g) : RecIn R' w v b := ⟨h.1, fun g hg => hd g (h.2 g hg)⟩

def Recs (R : Nat → Prop) (w : World) (rv : List (Value × Nat)) (l : List (List UInt8 × Nat)) : Prop :=
  rv.length = l.length ∧ ∀ (i : Nat) x y, rv[i]? = some x → l[i]? = some y → x.2 = y.2 ∧ y.2 < 18446744073709551616 ∧ RecIn R w x.1 y.1

structure LogAt (R : Nat → Prop) (w : World) (p d : Nat) (lv : Value) (rv : List (Value × Nat)) (L : LS) : Prop where
  blk : Blk w p 82 #[.pointer (some ⟨d, 0, none⟩), .int .i64 L.start, .int .i64 L.n, .int .u64 L.first, .int .u64 L.next, .int .u64 L.flushed, lv, .int .u64 L.fin, .int .u64 L.kept, .int .u64 L.life, .int .u64 L.turn, .int .i64 L.room]
  own : OwnF w 113 2 lv L.l.length (recCells rv)
  recs : Recs R w rv L.l
  nn : ∀ x ∈ rv, x.1 ≠ .slice none 0 0
  rp : R p
  rl : ∀ g, lv.ownBlock = some g → R g
  lt : ∀ b, R b → b < w.heap.size
  n0 : 16 ≤ L.n
  n1 : L.n ≤ 32768
  s1 : L.start ≤ 65536
  b1 : L.first < 18446744073709551616
  b2 : L.next < 18446744073709551616
  b3 : L.flushed < 18446744073709551616
  b4 : L.fin < 18446744073709551616
  b5 : L.kept < 18446744073709551616
  b6 : L.life < 18446744073709551616
  b7 : L.turn < 18446744073709551616
def LogOk (R : Nat → Prop) (w : World) (p d : Nat) (L : LS) : Prop := ∃ lv rv, LogAt R w p d lv rv L

section
variable {R : Nat → Prop} {w : World} {p d : Nat} {L : LS} {lv : Value} {rv : List (Value × Nat)}
theorem LogAt.fr {F : Nat → Prop} {w' : World} (h : LogAt R w p d lv rv L) (hf : Fr F w w') (hd : ∀ b, R b → ¬ F b) : LogAt R w' p d lv rv L :=
  { h with
    blk := h.blk.fr hf (hd _ h.rp)
    own := h.own.fr hf (fun g hg => hd g (h.rl g hg))
    recs := ⟨h.recs.1, fun i x y hx hy => ⟨(h.recs.2 i x y hx hy).1, (h.recs.2 i x y hx hy).2.1, (h.recs.2 i x y hx hy).2.2.fr hf (fun g hg _ => hd g hg)⟩⟩
    lt := fun b hb => Nat.lt_of_lt_of_le (h.lt b hb) hf.size }
theorem LogOk.fr {F : Nat → Prop} {w' : World} (h : LogOk R w p d L) (hf : Fr F w w') (hd : ∀ b, R b → ¬ F b) : LogOk R w' p d L := by
  obtain ⟨lv, rv, h⟩ := h; exact ⟨lv, rv, h.fr hf hd⟩
theorem LogOk.new {w' : World} (h : LogOk R w p d L) (hf : Fr Nob w w') : LogOk R w' p d L := h.fr hf (fun _ _ h => h)
theorem LogOk.drewN (h : LogOk R w p d L) (n : Nat) : LogOk R (w.drewN n) p d L := h.new ((Fr.refl _ w).drewN n)
theorem LogAt.cells (h : LogAt R w p d lv rv L) : w.cell? ⟨p, 0, none⟩ = some (.pointer (some ⟨d, 0, none⟩)) ∧ w.cell? ⟨p, 1, none⟩ = some (.int .i64 L.start) ∧ w.cell? ⟨p, 2, none⟩ = some (.int .i64 L.n) ∧ w.cell? ⟨p, 3, none⟩ = some (.int .u64 L.first) ∧
    w.cell? ⟨p, 4, none⟩ = some (.int .u64 L.next) ∧ w.cell? ⟨p, 5, none⟩ = some (.int .u64 L.flushed) ∧ w.cell? ⟨p, 6, none⟩ = some lv ∧ w.cell? ⟨p, 7, none⟩ = some (.int .u64 L.fin) ∧ w.cell? ⟨p, 8, none⟩ = some (.int .u64 L.kept) ∧
    w.cell? ⟨p, 9, none⟩ = some (.int .u64 L.life) ∧ w.cell? ⟨p, 10, none⟩ = some (.int .u64 L.turn) ∧ w.cell? ⟨p, 11, none⟩ = some (.int .i64 L.room) :=
  ⟨h.blk.cell 0, h.blk.cell 1, h.blk.cell 2, h.blk.cell 3, h.blk.cell 4, h.blk.cell 5, h.blk.cell 6, h.blk.cell 7, h.blk.cell 8, h.blk.cell 9, h.blk.cell 10, h.blk.cell 11⟩

/-- The log's own small cells change. -/
theorem LogAt.upd {w' : World} (h : LogAt R w p d lv rv L) (hf : Fr (fun k => k = p) w w') (f x fl fi k li t : Nat) (ro : Int) (b1 : f < 18446744073709551616) (b2 : x < 18446744073709551616) (b3 : fl < 18446744073709551616) (b4 : fi < 18446744073709551616)
    (b5 : k < 18446744073709551616) (b6 : li < 18446744073709551616) (b7 : t < 18446744073709551616)
    (hb : Blk w' p 82 #[.pointer (some ⟨d, 0, none⟩), .int .i64 L.start, .int .i64 L.n, .int .u64 f, .int .u64 x, .int .u64 fl, lv, .int .u64 fi, .int .u64 k, .int .u64 li, .int .u64 t, .int .i64 ro]) :
    LogAt R w' p d lv rv { L with first := f, next := x, flushed := fl, fin := fi, kept := k, life := li, turn := t, room := ro } :=
  { h with
    blk := hb
    own := h.own.fr hf (fun g hg he => by subst he; exact Blk.ownF_ne h.blk h.own (by decide) (by rw [hg]))
    recs := ⟨h.recs.1, fun i x y hx hy => ⟨(h.recs.2 i x y hx hy).1, (h.recs.2 i x y hx hy).2.1, (h.recs.2 i x y hx hy).2.2.far hf (fun g hg _ => by subst hg; exact ⟨_, _, h.blk, by decide⟩)⟩⟩
    lt := fun b hb => Nat.lt_of_lt_of_le (h.lt b hb) hf.size
    b1 := b1
    b2 := b2
    b3 := b3
    b4 := b4
    b5 := b5
    b6 := b6
    b7 := b7 }

theorem ring_any (h : LogOk R w p d L) : Calls Tryz.prog 69 #[.pointer (some ⟨p, 0, none⟩)] w fun e w' => e = .returned (.int .u64 ((L.n - 2 : Nat))) ∧ w = w' := by
  obtain ⟨lv, rv, h⟩ := h
  obtain ⟨_, _, h2, _⟩ := h.cells
  have hp := h.blk.lt
  have g0 := h.n0
  have g1 := h.n1
  clear h
  go_enter Tryz.func69, Tryz.ntmps69
  go_wp2
  go_ret
  exact ⟨by rw [show ((L.n : Int) - 2) = ((L.n - 2 : Nat) : Int) from by omega]; rfl, rfl⟩

/-- Where a sector of a number stands. -/
def LS.place (L : LS) (no : Nat) : Nat := L.start + 2 + no % (L.n - 2)
theorem place_any (no : Nat) (h : LogOk R w p d L) (hno : no < 18446744073709551616) : Calls Tryz.prog 70 #[.pointer (some ⟨p, 0, none⟩), .int .u64 no] w fun e w' => e = .returned (.int .i64 (L.place no)) ∧ Fr Nob w w' := by
  have HR : Hid (∀ n, Calls Tryz.prog 69 #[.pointer (some ⟨p, 0, none⟩)] (w.drewN n) fun e w' => e = .returned (.int .u64 ((L.n - 2 : Nat))) ∧ w.drewN n = w') := fun n => ring_any (h.drewN n)
  obtain ⟨lv, rv, h⟩ := h
  obtain ⟨_, h1, _⟩ := h.cells
  have hp := h.blk.lt
  have g0 := h.n0
  have g1 := h.n1
  have g2 := h.s1
  clear h
  unfold LS.place
  obtain ⟨r, hr⟩ : ∃ r, L.n - 2 = r := ⟨_, rfl⟩
  rw [hr] at HR
  rw [hr]
  have r0 : 14 ≤ r := by omega
  have r1 : r ≤ 32766 := by omega
  have hm : no % r < r := Nat.mod_lt _ (by omega)
  have e1 : Int.tmod (no : Int) (r : Int) = ((no % r : Nat) : Int) := by rw [Int.tmod_eq_emod_of_nonneg (by omega)]; rfl
  have e2 : IntKind.i64.wrap (((no % r : Nat)) : Int) = ((no % r : Nat) : Int) := by rw [IntKind.wrap_i64]; omega
  have e3 : IntKind.i64.wrap ((L.start : Int) + 2) = (L.start : Int) + 2 := by rw [IntKind.wrap_i64]; omega
  have e4 : IntKind.i64.wrap ((L.start : Int) + 2 + ((no % r : Nat) : Int)) = (L.start : Int) + 2 + ((no % r : Nat) : Int) := by rw [IntKind.wrap_i64]; omega
  have hr0 : ¬ (r : Int) = 0 := by omega
  clear hr
  generalize no % r = m at *
  go_enter Tryz.func70, Tryz.ntmps70
  go_wp2
  go_quiet ((go_at_call 69; exact quiet_eq (HR.out _)))
  go_wp2
  go_ret
  exact ⟨by rw [show (L.start : Int) + 2 + (m : Int) = ((L.start + 2 + m : Nat) : Int) from by omega]; rfl, (Fr.refl _ w).drewN nq⟩
end
end Go.Proofs.YtccmmnacejdeoaaGreatDoor

/-
  The bytes of a log's head.
-/
namespace Go.Proofs.YtccmmnacejdeoaaGreatDoor
set_option linter.unusedSimpArgs false
set_option linter.unusedVariables false
open Go.RowKit

def begM : List UInt8 := (zeros 64).set 0 76
def begT (turn : Nat) : List UInt8 := splice begM 8 (putB 8 turn)
def begL (turn lsn : Nat) : List UInt8 := splice (begT turn) 16 (putB 8 lsn)
def begPre (turn lsn at_ : Nat) : List UInt8 := splice (begL turn lsn) 24 (putB 8 at_)
def begB (turn lsn at_ : Nat) : List UInt8 := splice (begPre turn lsn at_) 4 (putB 4 (crcN (begPre turn lsn at_)))
theorem begM_length : begM.length = 64 := by simp [begM, zeros]
theorem begT_length (a : Nat) : (begT a).length = 64 := by unfold begT; rw [length_splice _ _ _ (by rw [putB_length, begM_length]; omega), begM_length]
theorem begL_length (a b : Nat) : (begL a b).length = 64 := by unfold begL; rw [length_splice _ _ _ (by rw [putB_length, begT_length]; omega), begT_length]
theorem begPre_length (a b c : Nat) : (begPre a b c).length = 64 := by unfold begPre; rw [length_splice _ _ _ (by rw [putB_length, begL_length]; omega), begL_length]
theorem begB_length (a b c : Nat) : (begB a b c).length = 64 := by unfold begB; rw [length_splice _ _ _ (by rw [putB_length, begPre_length]; omega), begPre_length]

set_option maxHeartbeats 800000 in
set_option maxRecDepth 100000 in
theorem begin_any (turn lsn at_ : Nat) (w : World) (h1 : turn < 18446744073709551616) (h2 : lsn < 18446744073709551616) (h3 : at_ < 18446744073709551616) :
    Calls Tryz.prog 68 #[.int .u64 turn, .int .u64 lsn, .int .u64 at_] w fun e w' => e = .returned (.slice (some ⟨w.heap.size, 0, none⟩) 64 64) ∧ Blk w' w.heap.size 5 (bts (begB turn lsn at_)).toArray ∧ Fr Nob w w' := by
  have hmk := make64
  have hz0 : zeros64.setIfInBounds 0 (.int .u8 76) = (bts begM).toArray := by
    unfold begM
    rw [← bts_set, show (bts (zeros 64)).toArray = zeros64 from zeros64_eq.symm]; rfl
  have HB0 : Hid (Blk (w.alloc (.cells (zeros64.setIfInBounds 0 (.int .u8 76)) 5)) w.heap.size 5 (bts begM).toArray) := by
    show Blk _ _ _ _
    rw [hz0]; exact Blk.new w _ _
  have HF0 : Hid (Fr Nob w (w.alloc (.cells (zeros64.setIfInBounds 0 (.int .u8 76)) 5))) := (Fr.refl _ w).alloc _
  clear hz0
  have c00 : zeros64[0]? = some (.int .u8 0) := by rw [zeros64_eq]; rfl
  go_enter Tryz.func68, Tryz.ntmps68
  go_wp2_with fail
  refine (put_any w.heap.size 8 8 56 begM turn _ HB0.out (by rw [begM_length]; omega) h1 (by omega)).mono ?_
  rintro e w1 ⟨rfl, hb1, hf1⟩
  have HB1 : Hid (Blk w1 w.heap.size 5 (bts (begT turn)).toArray) := hb1
  have HF1 : Hid (Fr Nob w w1) := HF0.out.step hf1 (fun i hi e => by omega)
  clear hb1 hf1 c00
  go_wp2_with fail
  refine (put_any w.heap.size 16 8 48 (begT turn) lsn _ HB1.out (by rw [begT_length]; omega) h2 (by omega)).mono ?_
  rintro e w2 ⟨rfl, hb2, hf2⟩
  have HB2 : Hid (Blk w2 w.heap.size 5 (bts (begL turn lsn)).toArray) := hb2
  have HF2 : Hid (Fr Nob w w2) := HF1.out.step hf2 (fun i hi e => by omega)
  clear hb2 hf2
  go_wp2_with fail
  refine (put_any w.heap.size 24 8 40 (begL turn lsn) at_ _ HB2.out (by rw [begL_length]; omega) h3 (by omega)).mono ?_
  rintro e w4 ⟨rfl, hb4, hf4⟩
  have HB4 : Hid (Blk w4 w.heap.size 5 (bts (begPre turn lsn at_)).toArray) := hb4
  have HF4 : Hid (Fr Nob w w4) := HF2.out.step hf4 (fun i hi e => by omega)
  have HL4 := Lib.hid (begPre_length turn lsn at_)
  clear hb4 hf4 HB0 HF0 HB1 HF1 HB2 HF2
  obtain ⟨g, hg⟩ : ∃ g, w.heap.size = g := ⟨_, rfl⟩
  have HG : Hid (w.heap.size ≤ g) := Nat.le_of_eq hg
  have HGe := Lib.hid hg
  rw [hg] at HB4 ⊢
  clear hg
  have hcr := crcN_lt (begPre turn lsn at_)
  have HQ : Hid (splice (begPre turn lsn at_) 4 (putB 4 (crcN (begPre turn lsn at_))) = begB turn lsn at_) := rfl
  generalize begPre turn lsn at_ = t at *
  go_wp2_with fail
  refine wp_region_quietly (fun W => Fr Nob w W) (by kernel_rfl) ?_
  have hS : Fr Nob w w4.drew := HF4.out.drew
  refine wpAnyH_op (i := 0) (some 23) (v := ?v0) (a' := ?a0) rfl rfl (by kernel_rfl) (by kernel_rfl) (by kernel_rfl) (fun _ _ _ h => h) rfl (fun wz hwz => ?h0) ?b0 hS ?_
  case h0 => (go_simp; try with_reducible rfl)
  case b0 => (simp only [Act.put, List.setIfInBounds_toArray, List.set_cons_zero, List.set_cons_succ]; rfl)
  refine wpAnyH_op (i := 1) (some 24) (v := ?v1) (a' := ?a1) rfl rfl (by kernel_rfl) (by kernel_rfl) (by kernel_rfl) (fun _ _ _ h => h) rfl (fun wz hwz => ?h1) ?b1 hS ?_
  case h1 => (go_simp; try with_reducible rfl)
  case b1 => (simp only [Act.put, List.setIfInBounds_toArray, List.set_cons_zero, List.set_cons_succ]; rfl)
  refine wpAnyH_op (i := 2) (some 25) (v := ?v2) (a' := ?a2) rfl rfl (by kernel_rfl) (by kernel_rfl) (by kernel_rfl) (fun _ _ _ h => h) rfl (fun wz hwz => ?h2) ?b2 hS ?_
  case h2 => (go_simp; try with_reducible rfl)
  case b2 => (simp only [Act.put, List.setIfInBounds_toArray, List.set_cons_zero, List.set_cons_succ]; rfl)
  refine wpAnyH_call (i := 3) rfl (by kernel_rfl) rfl ?run3 (crc64 HB4.out.drew HL4.out) ?_
  case run3 => go_simp
  rintro e w5 ⟨rfl, hf5⟩
  have hS5 : Fr Nob w w5 := hS.trans hf5
  have HB5 : Hid (Blk w5 g 5 (bts t).toArray) := HB4.out.drew.fr hf5 (fun h => h)
  clear hf5
  refine ⟨_, rfl, hS5, ?_⟩
  refine wpAnyH_at (some 26) (a' := ?a3) rfl ?b3 ?_
  case b3 => (simp only [Act.put, List.setIfInBounds_toArray, List.set_cons_zero, List.set_cons_succ]; rfl)
  refine wpAnyH_op (i := 4) (some 27) (v := (.int .u64 (crcN t : Nat))) (a' := ?a4) rfl rfl (by kernel_rfl) (by kernel_rfl) (by kernel_rfl) (fun _ _ _ h => h) rfl (fun wz hwz => ?h4) ?b4 hS5 ?_
  case h4 => (have hcr2 := wrap_nat (n := crcN t) (by omega); go_simp; try with_reducible rfl)
  case b4 => (simp only [Act.put, List.setIfInBounds_toArray, List.set_cons_zero, List.set_cons_succ]; rfl)
  refine wpAnyH_call (i := 5) rfl (by kernel_rfl) rfl ?run5 (put_any g 4 4 60 t (crcN t) w5 HB5.out (by rw [HL4.out]; omega) (by omega) (by omega)) ?_
  case run5 => go_simp
  rintro e w6 ⟨rfl, hb6, hf6⟩
  have hS6 : Fr Nob w w6 := hS5.step hf6 (fun i hi e => by have := HG.out; omega)
  rw [HQ.out] at hb6
  have HB6 := Lib.hid hb6
  clear hb6 hf6
  refine ⟨_, rfl, hS6, ?_⟩
  refine wpAnyH_at (some 28) (a' := ?a5) rfl ?b5 ?_
  case b5 => (simp only [Act.put, List.setIfInBounds_toArray, List.set_cons_zero, List.set_cons_succ]; rfl)
  refine wpAnyH_done (by kernel_rfl) ?_ _
  dsimp only [OnlyNormal]
  go_wp2
  go_ret
  rw [HGe.out]
  exact ⟨rfl, HB6.out, hS6⟩
end Go.Proofs.YtccmmnacejdeoaaGreatDoor
