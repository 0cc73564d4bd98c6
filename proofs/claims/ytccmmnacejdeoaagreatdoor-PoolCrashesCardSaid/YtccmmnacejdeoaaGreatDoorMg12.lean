/-
  WalGet, WalOpen, in one text.
-/
import Derived.Test.YtccmmnacejdeoaaGreatDoorMg07
import Derived.Test.YtccmmnacejdeoaaGreatDoorMg05
import Derived.Test.YtccmmnacejdeoaaGreatDoorMg11
/-
  What a log tells of itself: Size, Next, Flushed.
-/
namespace Go.Proofs.YtccmmnacejdeoaaGreatDoor
set_option linter.unusedSimpArgs false
set_option linter.unusedVariables false
open Go.RowKit
section
variable {R : Nat → Prop} {w : World} {p d : Nat} {L : LS}
theorem Size_any (h : LogOk R w p d L) : Calls Tryz.prog 44 #[.pointer (some ⟨p, 0, none⟩)] w fun e w' => e = .returned (.int .i64 (48 * ((L.n : Int) - 8))) ∧ w = w' := by
  obtain ⟨lv, rv, h⟩ := h
  obtain ⟨_, _, h2, _⟩ := h.cells
  have hp := h.blk.lt
  have g0 := h.n0
  have g1 := h.n1
  clear h
  go_enter Tryz.func44, Tryz.ntmps44
  go_wp2
  go_ret
  exact ⟨rfl, rfl⟩
theorem Next_any (h : LogOk R w p d L) : Calls Tryz.prog 21 #[.pointer (some ⟨p, 0, none⟩)] w fun e w' => e = .returned (.int .u64 L.next) ∧ w = w' := by
  obtain ⟨lv, rv, h⟩ := h
  obtain ⟨_, _, _, _, h2, _⟩ := h.cells
  have hp := h.blk.lt
  clear h
  go_enter Tryz.func21, Tryz.ntmps21
  go_wp2
  go_ret
  exact ⟨rfl, rfl⟩
theorem Flushed_any (h : LogOk R w p d L) : Calls Tryz.prog 49 #[.pointer (some ⟨p, 0, none⟩)] w fun e w' => e = .returned (.int .u64 L.flushed) ∧ w = w' := by
  obtain ⟨lv, rv, h⟩ := h
  obtain ⟨_, _, _, _, _, h2, _⟩ := h.cells
  have hp := h.blk.lt
  clear h
  go_enter Tryz.func49, Tryz.ntmps49
  go_wp2
  go_ret
  exact ⟨rfl, rfl⟩
end
end Go.Proofs.YtccmmnacejdeoaaGreatDoor

/-
  Open: a log on a disk.
-/
namespace Go.Proofs.YtccmmnacejdeoaaGreatDoor
set_option linter.unusedSimpArgs false
set_option linter.unusedVariables false
open Go.RowKit

theorem getN_bound' : ∀ (n : Nat) (l : List UInt8), l.length = n → getN l < 256 ^ n
  | 0, l, h => by
    obtain rfl : l = [] := List.eq_nil_of_length_eq_zero h
    simp [getN]
  | n + 1, l, h => by
    rcases List.eq_nil_or_concat l with rfl | ⟨l, c, rfl⟩
    · simp at h
    · rw [List.concat_eq_append] at h ⊢
      have ih := getN_bound' n l (by simpa using h)
      rw [getN_snoc, Nat.pow_succ]
      have := UInt8.toNat_lt c
      have := Nat.mod_le (getN l * 256 + c.toNat) 18446744073709551616
      omega
theorem getN_bound (l : List UInt8) : getN l < 256 ^ l.length := getN_bound' _ l rfl
theorem pLife_lt (b : List UInt8) : pLife b < 281474976710656 := by
  have h := getN_bound ((b.drop 5).take 6)
  have hl : ((b.drop 5).take 6).length ≤ 6 := by rw [List.length_take]; omega
  have h2 : 256 ^ ((b.drop 5).take 6).length ≤ 256 ^ 6 := Nat.pow_le_pow_right (by omega) hl
  unfold pLife
  omega
theorem LS.str_ml {L : LS} {S : DS} (hl : L.life < 281474976710656) (k : Nat) : (L.str S k).ml < 281474976710656 := by
  induction k with
  | zero => exact hl
  | succ k ih =>
    have hp := pLife_lt (S.now.getD (L.place (L.fin / 48 + k)) [])
    simp only [LS.str]
    unfold St.step
    split
    · show max _ _ < _; rw [Nat.max_def]; split <;> omega
    · show (if _ then max _ _ else _) < _
      split
      · rw [Nat.max_def]; split <;> omega
      · exact ih
theorem LS.bytes_length {L : LS} {S : DS} (hS : ∀ (i : Nat) (s : List UInt8), S.now[i]? = some s → s.length = 64) (hf : L.start + L.n ≤ S.now.length) (hn : 16 ≤ L.n) (h1 : L.n ≤ 32768) (hl : L.life < 18446744073709551616) : (L.bytes S).length ≤ 1572768 := by
  have := (LS.str_bounds (L := L) (S := S) hS hf hn hl (L.n - 2)).1
  unfold LS.bytes
  rw [List.length_drop]
  omega
theorem LS.take_kept (k : Nat) : ∀ (L : LS) (b : List UInt8), (L.take k b).start = L.start ∧ (L.take k b).n = L.n ∧ (L.take k b).first = L.first ∧ (L.take k b).life = L.life ∧ (L.take k b).turn = L.turn ∧ L.next ≤ (L.take k b).next ∧ (L.take k b).kept = L.kept ∧ (L.take k b).flushed = L.flushed := by
  induction k with
  | zero => intro L b; exact ⟨rfl, rfl, rfl, rfl, rfl, Nat.le_refl _, rfl, rfl⟩
  | succ k ih =>
    intro L b
    simp only [LS.take]
    split
    · obtain ⟨h1, h2, h3, h4, h5, h6, h7, h8⟩ := ih (L.add (tkRec b)) (b.drop (16 + tkN b))
      refine ⟨h1, h2, h3, h4, h5, ?_, h7, h8⟩
      have : (L.add (tkRec b)).next = L.next + 1 := rfl
      omega
    · exact ⟨rfl, rfl, rfl, rfl, rfl, Nat.le_refl _, rfl, rfl⟩

/-- A log ahead of all that Open reads. -/
def LS.fresh (at_ n : Nat) : LS := ⟨at_, n, 1, 0, 0, [], 0, 0, 0, 0, 0⟩
/-- What Open makes of a disk: the head read, the records taken. -/
def LS.opHead (at_ n : Nat) (S : DS) : LS := let L := (LS.fresh at_ n).readHead S; { L with next := L.first, room := 48 * ((n : Int) - 8) }
def LS.opTake (at_ n : Nat) (S : DS) : LS := let L := LS.opHead at_ n S; (L.streamed S).take (L.bytes S).length (L.bytes S)
def LS.opened (at_ n : Nat) (S : DS) : LS := let L := LS.opTake at_ n S; { L with life := L.life + 1, kept := L.fin, flushed := L.next - 1 }
/-- The disk that Open reads. -/
def DS.settled (S : DS) : DS := if 0 < S.waits.length then S.flushed else S

theorem LS.readHead_kept (L : LS) (S : DS) : (L.readHead S).start = L.start ∧ (L.readHead S).n = L.n ∧ (L.readHead S).l = L.l ∧ (L.readHead S).next = L.next ∧ (L.readHead S).life = L.life ∧ (L.readHead S).room = L.room ∧ (L.readHead S).kept = L.kept ∧ (L.readHead S).flushed = L.flushed := by
  unfold LS.readHead
  split
  · exact ⟨rfl, rfl, rfl, rfl, rfl, rfl, rfl, rfl⟩
  · exact LS.heads_kept L S 2
theorem LS.head_first (L : LS) (b : List UInt8) (h : 1 ≤ L.first) : 1 ≤ (L.head b).first := by
  unfold LS.head
  split
  · rename_i hc; exact hc.1
  · exact h
theorem LS.heads_first (L : LS) (S : DS) (h : 1 ≤ L.first) (k : Nat) : 1 ≤ (L.heads S k).first := by
  induction k with
  | zero => exact h
  | succ k ih => exact LS.head_first _ _ ih
theorem LS.readHead_first (L : LS) (S : DS) (h : 1 ≤ L.first) : 1 ≤ (L.readHead S).first := by
  unfold LS.readHead
  split
  · exact h
  · exact LS.heads_first _ _ h _

/-- A log that lives on a disk, told apart from what was there ahead. -/
structure Opened (RD : Nat → Prop) (w w' : World) (p d : Nat) (L : LS) (S : DS) : Prop where
  ok : ∃ R RD', WalIn w' p d L S R RD' ∧ (∀ b, R b → w.heap.size ≤ b) ∧ (∀ b, RD' b → RD b ∨ w.heap.size ≤ b)
  fr : FrD RD w w'

theorem trimmed_length (L : LS) (S : DS) : (L.trimmed S).now.length = S.now.length := by
  unfold LS.trimmed
  split
  · rfl
  · rw [DS.flushed_length, DS.wr_length]

set_option maxHeartbeats 3200000 in
set_option maxRecDepth 100000 in
theorem Open_good {RD : Nat → Prop} {w : World} {d : Nat} {S : DS} (at_ n : Nat) (h : DiskOk RD w d S) (h16 : 16 ≤ n) (hmost : n ≤ 32768) (hat : at_ + n ≤ S.now.length) (hwl : S.waits.length < 4000000000)
    (hd0 : S.dead = false) (hd1 : S.settled.dead = false) (hhead : (LS.opHead at_ n S.settled).fin < 4611686018427387904) (hfirst : (LS.opHead at_ n S.settled).first < 4611686018427387904) (hcode : (LS.opened at_ n S.settled).trimCode S.settled = 0) :
    Calls Tryz.prog 19 #[.pointer (some ⟨d, 0, none⟩), .int .i64 at_, .int .i64 n] w fun e w' => ∃ p, e = .returned (.tuple #[.pointer (some ⟨p, 0, none⟩), .int .i64 0]) ∧ w.heap.size ≤ p ∧ Opened RD w w' p d (LS.opened at_ n S.settled) ((LS.opened at_ n S.settled).trimmed S.settled) := by
  have HSec := Lib.hid (Sectors_any h)
  have hsm : S.now.length ≤ 65536 := by obtain ⟨_, _, _, _, _, _, hd⟩ := h; exact hd.small
  have H := Lib.hid h
  have Hd0 := Lib.hid hd0
  have Hd1 := Lib.hid hd1
  have Hhead := Lib.hid hhead
  have Hfirst := Lib.hid hfirst
  have Hcode := Lib.hid hcode
  have HRlt : Hid (∀ b, RD b → b < w.heap.size) := fun b hb => h.lt hb
  obtain ⟨sl, hsl⟩ : ∃ sl, S.now.length = sl := ⟨_, rfl⟩
  have HSl := Lib.hid hsl
  rw [hsl] at HSec hsm hat
  clear h hd0 hd1 hhead hfirst hcode hsl
  have t1 : decide ((n : Int) < 16) = false := by rw [decide_eq_false_iff_not]; omega
  have t2 : decide ((32768 : Int) < (n : Int)) = false := by rw [decide_eq_false_iff_not]; omega
  have t3 : decide ((at_ : Int) < 0) = false := by rw [decide_eq_false_iff_not]; omega
  have t4 : decide ((sl : Int) - (n : Int) < (at_ : Int)) = false := by rw [decide_eq_false_iff_not]; omega
  have hLog : Hid (LogAt (fun b => b = w.heap.size) (w.alloc (.cells #[.pointer (some ⟨d, 0, none⟩), .int .i64 at_, .int .i64 n, .int .u64 1, .int .u64 0, .int .u64 0, .slice none 0 0, .int .u64 0, .int .u64 0, .int .u64 0, .int .u64 0, .int .i64 0] 82)) w.heap.size d (.slice none 0 0) [] (LS.fresh at_ n)) :=
    { blk := Blk.new _ _ _, own := .of (base := 0) (World.ownsRow_nil _ _ _ _), recs := ⟨rfl, fun i x y hx => by simp at hx⟩, nn := by simp, rp := rfl, rl := by simp [Value.ownBlock], lt := by rintro b rfl; simp, n0 := h16, n1 := hmost, s1 := by show at_ ≤ 65536; omega, b1 := by show 1 < _; omega, b2 := by show 0 < _; omega, b3 := by show 0 < _; omega, b4 := by show 0 < _; omega, b5 := by show 0 < _; omega, b6 := by show 0 < _; omega, b7 := by show 0 < _; omega }
  go_enter Tryz.func19, Tryz.ntmps19
  go_wp2_with (go_at_call 37; refine HSec.out.mono ?_; rintro e w' ⟨rfl, rfl⟩)
  obtain ⟨wA, hA⟩ : ∃ wA, (w.alloc (.cells #[.pointer (some ⟨d, 0, none⟩), .int .i64 at_, .int .i64 n, .int .u64 1, .int .u64 0, .int .u64 0, .slice none 0 0, .int .u64 0, .int .u64 0, .int .u64 0, .int .u64 0, .int .i64 0] 82)) = wA := ⟨_, rfl⟩
  have hFA : Fr Nob w wA := by rw [← hA]; exact (Fr.refl _ w).alloc _
  have hzA : wA.heap.size = w.heap.size + 1 := by rw [← hA]; simp
  rw [hA] at hLog ⊢
  clear hA
  obtain ⟨p, hp⟩ : ∃ p, w.heap.size = p := ⟨_, rfl⟩
  rw [hp] at hLog HRlt hzA ⊢
  have hpA : p < wA.heap.size := by omega
  have hap : ¬ RD p := fun h => by have := HRlt.out p h; omega
  have HP := Lib.hid hp
  have HDA := Lib.hid (H.out.new hFA)
  have HWt := Lib.hid (Waiting_any HDA.out)
  have HFA := Lib.hid (hFA.mono (G := Mut RD w) (fun _ _ h => h.elim))
  clear hp t1 t2 t3 t4 HSec hFA hzA
  by_cases hwt : 0 < S.waits.length
  · have t5 : decide (0 < S.waits.length) = true := by simpa using hwt
    have hset : S.settled = S.flushed := by unfold DS.settled; rw [if_pos hwt]
    have hfl := Flush_any HDA.out hwl
    rw [show S.fcode = 0 from by unfold DS.fcode; rw [if_neg (by rw [Hd0.out]; decide)], ← hset] at hfl
    have HFl := Lib.hid hfl
    have hlen1 : S.settled.now.length = S.now.length := by rw [hset]; exact DS.flushed_length S
    have HLn := Lib.hid (hlen1.trans HSl.out)
    have hw1 : S.settled.waits.length + 1 < 4000000000 := by
      rw [hset]; unfold DS.flushed DS.flush DS.burn DS.flush0
      rw [if_neg (by rw [Hd0.out]; decide)]
      split <;> exact (by show 0 + 1 < 4000000000; omega)
    have HW1 := Lib.hid hw1
    clear hfl hset hlen1 hw1 hwt
    go_wp2_with (go_at_call 41; refine HWt.out.mono ?_; rintro e w' ⟨rfl, rfl⟩)
    refine HFl.out.mono ?_
    rintro e wB ⟨rfl, hdB, hfB⟩
    have HDB := Lib.hid hdB
    have HFB := Lib.hid (FrD.step HFA.out (fun _ h => h) hfB (fun _ _ h => h))
    have HLB := Lib.hid (hLog.out.fr hfB.fr (fun b hb h => hap (by subst hb; exact h)))
    have hpB : p < wB.heap.size := by have := hfB.size; omega
    clear hdB hfB HDA HFA HWt HFl hLog t5 hpA
    generalize hS1 : S.settled = S1 at *
    have HS1 := Lib.hid hS1
    clear hS1
    have HWB : Hid (WalIn wB p d (LS.fresh at_ n) S1 (fun b => b = p) RD) := ⟨⟨_, _, HLB.out⟩, HDB.out, fun b hb h => hap (by subst hb; exact h), by rw [HLn.out]; exact hat⟩
    have hrh := readHead_any HWB.out
    rw [show S1.fcode = 0 from by unfold DS.fcode; rw [if_neg (by rw [Hd1.out]; decide)]] at hrh
    have HRh := Lib.hid hrh
    clear hrh
    go_wp2_with fail
    refine HRh.out.mono ?_
    rintro e wC ⟨rfl, hC, hfC⟩
    have hkept := LS.readHead_kept (LS.fresh at_ n) S1
    have hf1 := LS.readHead_first (LS.fresh at_ n) S1 (Nat.le_refl _)
    obtain ⟨L1, hL1⟩ : ∃ L1, (LS.fresh at_ n).readHead S1 = L1 := ⟨_, rfl⟩
    rw [hL1] at hC hkept hf1
    have hop : LS.opHead at_ n S1 = { L1 with next := L1.first, room := 48 * ((n : Int) - 8) } := by
      unfold LS.opHead
      rw [hL1]
    have HOp := Lib.hid hop
    have Hk := Lib.hid hkept
    have HFC := Lib.hid (FrD.step' HFB.out (hfC.mono (G := fun b => b = p) (fun _ _ h => h)) (fun i hi h => absurd hi (by have := HP.out; omega)))
    clear hL1 hop HLB HDB HFB HWB HRh hkept
    obtain ⟨lv, rv, hlC⟩ := hC.l
    have hbk := hlC.blk
    have c3 := hbk.cell 3
    have hpC := hbk.lt
    have hn1 : L1.n = n := Hk.out.2.1
    have hb1 := hlC.b1
    simp only [List.getElem?_toArray, List.getElem?_cons_zero, List.getElem?_cons_succ] at c3
    have HC := Lib.hid hC
    have HlC := Lib.hid hlC
    have HBk := Lib.hid hbk
    have hsz := Size_any (hC.l.new (Fr.refl Nob wC).drew)
    rw [hn1] at hsz
    have HSz := Lib.hid hsz
    have Hn1 := Lib.hid hn1
    clear hbk hlC hC hsz hn1
    go_wp2
    have hS : wC.drew.cell? ⟨p, 3, none⟩ = some (.int .u64 L1.first) ∧ p < wC.drew.heap.size := ⟨c3, hpC⟩
    refine Rg.begin (fun W => W.cell? ⟨p, 3, none⟩ = some (.int .u64 L1.first) ∧ p < W.heap.size) [13] (by kernel_rfl) ?_
    refine Rg.op 0 (some 54) hS (v := ?v0a) (hy := fun wz hwz => ?h0a) (h := ?_)
    case h0a => (go_simp; try with_reducible rfl)
    refine Rg.op 1 (some 55) hS (v := ?v1a) (hy := fun wz hwz => ?h1a) (h := ?_)
    case h1a => (go_simp; try with_reducible rfl)
    refine Rg.op 2 (some 56) hS (v := ?v2a) (hy := fun wz hwz => ?h2a) (h := ?_)
    case h2a => (go_simp; try with_reducible rfl)
    refine Rg.op 3 (some 57) hS (v := ?v3a) (hy := fun wz hwz => ?h3a) (h := ?_)
    case h3a => (obtain ⟨c3, hp⟩ := hwz; go_simp; try with_reducible rfl)
    refine Rg.op 4 (some 58) hS (v := ?v4a) (hy := fun wz hwz => ?h4a) (h := ?_)
    case h4a => (go_simp; try with_reducible rfl)
    refine Rg.op 5 (some 59) hS (v := ?v5a) (hy := fun wz hwz => ?h5a) (h := ?_)
    case h5a => (obtain ⟨c3, hp⟩ := hwz; go_simp; try with_reducible rfl)
    refine Rg.op 6 (some 60) hS (v := ?v6a) (hy := fun wz hwz => ?h6a) (h := ?_)
    case h6a => (go_simp; try with_reducible rfl)
    refine Rg.call 7 (some 61) (hrun := ?h7a) (hcall := HSz.out) (h := ?_)
    case h7a => (go_simp)
    rintro e w5 ⟨rfl, rfl⟩
    refine ⟨_, ?a7a, rfl, ?b7a, (fun _ => hS), ?_⟩
    case b7a => (simp only [Act.put, List.setIfInBounds_toArray, List.set_cons_zero, List.set_cons_succ]; rfl)
    refine Rg.op 8 (some 62) hS (v := ?v8a) (hy := fun wz hwz => ?h8a) (h := ?_)
    case h8a => (obtain ⟨c3, hp⟩ := hwz; go_simp; try with_reducible rfl)
    refine Rg.op 9 (some 63) hS (v := ?v9a) (hy := fun wz hwz => ?h9a) (h := ?_)
    case h9a => (go_simp; try with_reducible rfl)
    have q4 := HBk.out.drew.frozen 4
    have c4 := HBk.out.drew.cell 4
    have hp3 := hpC
    simp only [List.getElem?_toArray, List.getElem?_cons_zero, List.getElem?_cons_succ] at c4
    have hS2 : (wC.drew.setCell ⟨p, 4, none⟩ (.int .u64 L1.first)).cell? ⟨p, 3, none⟩ = some (.int .u64 L1.first) ∧ p < (wC.drew.setCell ⟨p, 4, none⟩ (.int .u64 L1.first)).heap.size := ⟨(HBk.out.drew.set_ 4 _).cell 3, (HBk.out.drew.set_ 4 (.int .u64 L1.first)).lt⟩
    refine Rg.store 10 (w' := ((wC.drew.setCell ⟨p, 4, none⟩ (.int .u64 L1.first)))) (hrun := ?h10a) (hS := (fun _ => hS2)) (h := ?_)
    case h10a => (go_simp; try with_reducible rfl)
    refine Rg.op 11 (some 64) hS2 (v := ?v11a) (hy := fun wz hwz => ?h11a) (h := ?_)
    case h11a => (obtain ⟨c3, hp⟩ := hwz; go_simp; try with_reducible rfl)
    refine Rg.op 12 (some 65) hS2 (v := ?v12a) (hy := fun wz hwz => ?h12a) (h := ?_)
    case h12a => (go_simp; try with_reducible rfl)
    have q11 := HBk.out.frozen 11
    have c11 := HBk.out.cell 11
    simp only [List.getElem?_toArray, List.getElem?_cons_zero, List.getElem?_cons_succ] at c11
    refine Rg.store 13 (w' := ?w13a) (hrun := ?h13a) (hS := (fun h => absurd (by decide) h)) (h := ?_)
    case h13a => (go_simp; try with_reducible rfl)
    refine Rg.done _ (h := ?_)
    go_wp2_with fail
    obtain ⟨L2, hL2⟩ : ∃ L2, LS.opHead at_ n S1 = L2 := ⟨_, rfl⟩
    have HO2 := Lib.hid (HOp.out.symm.trans hL2)
    obtain ⟨wE, hE⟩ : ∃ wE, ((wC.setCell ⟨p, 4, none⟩ (.int .u64 L1.first)).setCell ⟨p, 11, none⟩ (.int .i64 (48 * ((n : Int) - 8)))).drew = wE := ⟨_, rfl⟩
    have hfE : Fr (fun b => b = p) wC wE := by rw [← hE]; exact (((Fr.refl (fun b => b = p) wC).setCell (p := ⟨p, 4, none⟩) (.inr rfl) _).setCell (p := ⟨p, 11, none⟩) (.inr rfl) _).drew
    have hlE : LogAt (fun b => b = p) wE p d lv rv L2 := by
      rw [← HO2.out]
      exact HlC.out.upd hfE _ _ _ _ _ _ _ _ hb1 hb1 HlC.out.b3 HlC.out.b4 HlC.out.b5 HlC.out.b6 HlC.out.b7 (by rw [← hE]; exact ((HBk.out.set_ 4 _).set_ 11 _).drew)
    have HWE : Hid (WalIn wE p d L2 S1 (fun b => b = p) RD) := by
      refine ⟨⟨lv, rv, hlE⟩, HC.out.d.fr hfE (fun b hb e => hap (by subst e; exact hb)), HC.out.apart, ?_⟩
      have := HC.out.fits
      rw [← HO2.out]
      exact this
    have HFE := Lib.hid (FrD.step' HFC.out hfE (fun i hi h => absurd hi (by have := HP.out; omega)))
    have h2k : L2.n = n ∧ L2.l = [] ∧ L2.life = 0 ∧ L2.next = L2.first ∧ L2.room = 48 * ((n : Int) - 8) ∧ 1 ≤ L2.first := by
      rw [← HO2.out]
      exact ⟨Hn1.out, Hk.out.2.2.1, Hk.out.2.2.2.2.1, rfl, rfl, hf1⟩
    have H2k := Lib.hid h2k
    have hh2 := Hhead.out
    have hh3 := Hfirst.out
    rw [hL2] at hh2 hh3
    have hbl : (L2.bytes S1).length ≤ 1572768 := LS.bytes_length (fun i s hs => HWE.out.d.len64 hs) HWE.out.fits hlE.n0 hlE.n1 hlE.b6
    have hml : (L2.streamed S1).life < 281474976710656 := LS.str_ml (by rw [h2k.2.2.1]; omega) _
    have HSt := Lib.hid (stream_any HWE.out Hd1.out)
    have HL2 := Lib.hid hL2
    have hEsz := HFE.out.size
    rw [hE]
    clear hlE hfE hE h2k hL2 HO2 HOp HlC HBk HC HFC HSz Hk Hn1 hS
    refine HSt.out.mono ?_
    rintro e wF ⟨A, c, rfl, hbi, hbc, hAa, hWF, hfF⟩
    have hfz := hfF.size
    have hpE : p < wE.heap.size := HWE.out.l.lt rfl
    have HDF := Lib.hid hWF.d
    have HFF := Lib.hid (FrD.step' HFE.out hfF (fun i hi h => absurd hi (by have := HP.out; omega)))
    have htk := take_any A c (L2.bytes S1) hWF.l hbi hbc (fun a ha => ⟨(hAa a ha).2, fun e => by have := (hAa a ha).1; omega⟩) (by omega) (by rw [show (L2.streamed S1).l = L2.l from rfl, H2k.out.2.1]; simp) (by show L2.fin < _; omega) (by show L2.next < _; rw [H2k.out.2.2.2.1]; omega) (by show _ ≤ L2.room; rw [H2k.out.2.2.2.2.1]; omega) (by show L2.room ≤ _; rw [H2k.out.2.2.2.2.1]; omega)
    have HTk := Lib.hid htk
    have hfits := HWE.out.fits
    clear htk hbi hAa hbc hWF HSt HFE HWE
    go_wp2_with fail
    refine HTk.out.mono ?_
    rintro e wG ⟨rfl, hlG, hfG⟩
    obtain ⟨L4, hL4⟩ : ∃ L4, (L2.streamed S1).take (L2.bytes S1).length (L2.bytes S1) = L4 := ⟨_, rfl⟩
    have hk4 := LS.take_kept (L2.bytes S1).length (L2.streamed S1) (L2.bytes S1)
    rw [hL4] at hlG hk4
    have hopened : LS.opened at_ n S1 = { L4 with life := L4.life + 1, kept := L4.fin, flushed := L4.next - 1 } := by
      unfold LS.opened LS.opTake
      rw [HL2.out, hL4]
    obtain ⟨lv', rv', hlG⟩ := hlG
    have h4life : L4.life < 281474976710656 := by rw [hk4.2.2.2.1]; exact hml
    have h4next : 1 ≤ L4.next := by have h1 := hk4.2.2.2.2.2.1; have h2 : (L2.streamed S1).next = L2.next := rfl; have h3 := H2k.out; omega
    have h4next' := hlG.b2
    have hbk := hlG.blk
    have c4 := hbk.cell 4
    have c5 := hbk.cell 5
    have c7 := hbk.cell 7
    have c8 := hbk.cell 8
    have c9 := hbk.cell 9
    have q5 := hbk.frozen 5
    have q8 := hbk.frozen 8
    have q9 := hbk.frozen 9
    have hpG := hbk.lt
    simp only [List.getElem?_toArray, List.getElem?_cons_zero, List.getElem?_cons_succ] at c4 c5 c7 c8 c9
    have HBk := Lib.hid hbk
    have HlG := Lib.hid hlG
    have HOd := Lib.hid hopened
    have Hk4 := Lib.hid hk4
    have HFG := Lib.hid (FrD.step' HFF.out hfG (fun i hi h => absurd hi (by have := HP.out; omega)))
    have HDG := Lib.hid (HDF.out.fr hfG (fun b hb e => hap (by subst e; exact hb)))
    have hgz := hfG.size
    clear hlG hfG hbk hopened hk4 hL4 HDF HFF HTk
    go_wp2_with fail
    obtain ⟨wH, hH⟩ : ∃ wH, (((wG.setCell ⟨p, 9, none⟩ (.int .u64 ((L4.life : Int) + 1))).setCell ⟨p, 8, none⟩ (.int .u64 (L4.fin : Int))).setCell ⟨p, 5, none⟩ (.int .u64 ((L4.next : Int) - 1))) = wH := ⟨_, rfl⟩
    have hfH : Fr (fun b => b = p) wG wH := by rw [← hH]; exact (((Fr.refl (fun b => b = p) wG).setCell (p := ⟨p, 9, none⟩) (.inr rfl) _).setCell (p := ⟨p, 8, none⟩) (.inr rfl) _).setCell (p := ⟨p, 5, none⟩) (.inr rfl) _
    have hlH : LogAt (Ext (fun b => b = p) wF wG) wH p d lv' rv' (LS.opened at_ n S1) := by
      rw [HOd.out]
      refine HlG.out.upd hfH _ _ _ _ _ _ _ _ HlG.out.b1 HlG.out.b2 (by omega) HlG.out.b4 HlG.out.b4 (by omega) HlG.out.b7 ?_
      rw [← hH, show ((L4.life + 1 : Nat) : Int) = (L4.life : Int) + 1 from by omega, show ((L4.next - 1 : Nat) : Int) = (L4.next : Int) - 1 from by omega]
      exact ((HBk.out.set_ 9 _).set_ 8 _).set_ 5 _
    have hdH := HDG.out.fr hfH (fun b hb e => hap (by subst e; exact hb))
    have hWH : WalIn wH p d (LS.opened at_ n S1) S1 (Ext (fun b => b = p) wF wG) RD := by
      refine ⟨⟨lv', rv', hlH⟩, hdH, fun b hb hd => ?_, ?_⟩
      · rcases hb with hb | hb
        · exact hap (by subst hb; exact hd)
        · have := HRlt.out b hd; omega
      · rw [HOd.out]
        show L4.start + L4.n ≤ _
        rw [Hk4.out.1, Hk4.out.2.1]
        exact hfits
    have htr := trim_any hWH Hd1.out HW1.out
    rw [Hcode.out] at htr
    have HTr := Lib.hid htr
    have HWH := Lib.hid hWH
    have HFH := Lib.hid (FrD.step' HFG.out hfH (fun i hi h => absurd hi (by have := HP.out; omega)))
    have hhz := hfH.size
    clear htr hlH hdH hWH
    rw [hH]
    clear hfH hH
    refine HTr.out.mono ?_
    rintro e wI ⟨rfl, hlI, hdI, hfI⟩
    go_wp2
    go_ret2
    rw [HS1.out]
    refine ⟨p, rfl, by have := HP.out; omega, ⟨Ext (fun b => b = p) wF wG, Ext RD wH wI, ⟨hlI, hdI, ?_, ?_⟩, ?_, ?_⟩, FrD.step HFH.out (fun _ h => h) hfI (fun _ _ h => h)⟩
    · rintro b hb (hd | hd)
      · exact HWH.out.apart b hb hd
      · rcases hb with hb | hb
        · subst hb; have := hd.1; omega
        · have := hd.1; have := hb.2; omega
    · rw [show ((LS.opened at_ n S1).trimmed S1).now.length = S1.now.length from trimmed_length _ _]
      exact HWH.out.fits
    · rintro b (hb | hb)
      · subst hb; have := HP.out; omega
      · have := HP.out; have := hb.1; omega
    · rintro b (hb | hb)
      · exact .inl hb
      · have := HP.out; have := hb.1; exact .inr (by omega)
  · have t5 : decide (0 < S.waits.length) = false := by simpa using hwt
    have hset : S.settled = S := by unfold DS.settled; rw [if_neg hwt]
    have HLn : Hid (S.settled.now.length = sl) := by rw [Hid, hset]; exact HSl.out
    have HW1 : Hid (S.settled.waits.length + 1 < 4000000000) := by rw [Hid, hset]; omega
    obtain ⟨wB, hB⟩ : ∃ wB, wA = wB := ⟨_, rfl⟩
    subst hB
    have HDB : Hid (DiskOk RD wA d S.settled) := by rw [hset]; exact HDA.out
    have HFB := HFA
    have HLB := hLog
    have hpB := hpA
    clear hset hwt HDA HFA hLog hpA
    go_wp2_with (go_at_call 41; refine HWt.out.mono ?_; rintro e w' ⟨rfl, rfl⟩)
    obtain ⟨wB, hB⟩ : ∃ wB, wA = wB := ⟨_, rfl⟩
    subst hB
    clear HWt t5
    generalize hS1 : S.settled = S1 at *
    have HS1 := Lib.hid hS1
    clear hS1
    have HWB : Hid (WalIn wA p d (LS.fresh at_ n) S1 (fun b => b = p) RD) := ⟨⟨_, _, HLB.out⟩, HDB.out, fun b hb h => hap (by subst hb; exact h), by rw [HLn.out]; exact hat⟩
    have hrh := readHead_any HWB.out
    rw [show S1.fcode = 0 from by unfold DS.fcode; rw [if_neg (by rw [Hd1.out]; decide)]] at hrh
    have HRh := Lib.hid hrh
    clear hrh
    go_wp2_with fail
    refine HRh.out.mono ?_
    rintro e wC ⟨rfl, hC, hfC⟩
    have hkept := LS.readHead_kept (LS.fresh at_ n) S1
    have hf1 := LS.readHead_first (LS.fresh at_ n) S1 (Nat.le_refl _)
    obtain ⟨L1, hL1⟩ : ∃ L1, (LS.fresh at_ n).readHead S1 = L1 := ⟨_, rfl⟩
    rw [hL1] at hC hkept hf1
    have hop : LS.opHead at_ n S1 = { L1 with next := L1.first, room := 48 * ((n : Int) - 8) } := by
      unfold LS.opHead
      rw [hL1]
    have HOp := Lib.hid hop
    have Hk := Lib.hid hkept
    have HFC := Lib.hid (FrD.step' HFB.out (hfC.mono (G := fun b => b = p) (fun _ _ h => h)) (fun i hi h => absurd hi (by have := HP.out; omega)))
    clear hL1 hop HLB HDB HFB HWB HRh hkept
    obtain ⟨lv, rv, hlC⟩ := hC.l
    have hbk := hlC.blk
    have c3 := hbk.cell 3
    have hpC := hbk.lt
    have hn1 : L1.n = n := Hk.out.2.1
    have hb1 := hlC.b1
    simp only [List.getElem?_toArray, List.getElem?_cons_zero, List.getElem?_cons_succ] at c3
    have HC := Lib.hid hC
    have HlC := Lib.hid hlC
    have HBk := Lib.hid hbk
    have hsz := Size_any (hC.l.new (Fr.refl Nob wC).drew)
    rw [hn1] at hsz
    have HSz := Lib.hid hsz
    have Hn1 := Lib.hid hn1
    clear hbk hlC hC hsz hn1
    go_wp2
    have hS : wC.drew.cell? ⟨p, 3, none⟩ = some (.int .u64 L1.first) ∧ p < wC.drew.heap.size := ⟨c3, hpC⟩
    refine Rg.begin (fun W => W.cell? ⟨p, 3, none⟩ = some (.int .u64 L1.first) ∧ p < W.heap.size) [13] (by kernel_rfl) ?_
    refine Rg.op 0 (some 54) hS (v := ?v0b) (hy := fun wz hwz => ?h0b) (h := ?_)
    case h0b => (go_simp; try with_reducible rfl)
    refine Rg.op 1 (some 55) hS (v := ?v1b) (hy := fun wz hwz => ?h1b) (h := ?_)
    case h1b => (go_simp; try with_reducible rfl)
    refine Rg.op 2 (some 56) hS (v := ?v2b) (hy := fun wz hwz => ?h2b) (h := ?_)
    case h2b => (go_simp; try with_reducible rfl)
    refine Rg.op 3 (some 57) hS (v := ?v3b) (hy := fun wz hwz => ?h3b) (h := ?_)
    case h3b => (obtain ⟨c3, hp⟩ := hwz; go_simp; try with_reducible rfl)
    refine Rg.op 4 (some 58) hS (v := ?v4b) (hy := fun wz hwz => ?h4b) (h := ?_)
    case h4b => (go_simp; try with_reducible rfl)
    refine Rg.op 5 (some 59) hS (v := ?v5b) (hy := fun wz hwz => ?h5b) (h := ?_)
    case h5b => (obtain ⟨c3, hp⟩ := hwz; go_simp; try with_reducible rfl)
    refine Rg.op 6 (some 60) hS (v := ?v6b) (hy := fun wz hwz => ?h6b) (h := ?_)
    case h6b => (go_simp; try with_reducible rfl)
    refine Rg.call 7 (some 61) (hrun := ?h7b) (hcall := HSz.out) (h := ?_)
    case h7b => (go_simp)
    rintro e w5 ⟨rfl, rfl⟩
    refine ⟨_, ?a7b, rfl, ?b7b, (fun _ => hS), ?_⟩
    case b7b => (simp only [Act.put, List.setIfInBounds_toArray, List.set_cons_zero, List.set_cons_succ]; rfl)
    refine Rg.op 8 (some 62) hS (v := ?v8b) (hy := fun wz hwz => ?h8b) (h := ?_)
    case h8b => (obtain ⟨c3, hp⟩ := hwz; go_simp; try with_reducible rfl)
    refine Rg.op 9 (some 63) hS (v := ?v9b) (hy := fun wz hwz => ?h9b) (h := ?_)
    case h9b => (go_simp; try with_reducible rfl)
    have q4 := HBk.out.drew.frozen 4
    have c4 := HBk.out.drew.cell 4
    have hp3 := hpC
    simp only [List.getElem?_toArray, List.getElem?_cons_zero, List.getElem?_cons_succ] at c4
    have hS2 : (wC.drew.setCell ⟨p, 4, none⟩ (.int .u64 L1.first)).cell? ⟨p, 3, none⟩ = some (.int .u64 L1.first) ∧ p < (wC.drew.setCell ⟨p, 4, none⟩ (.int .u64 L1.first)).heap.size := ⟨(HBk.out.drew.set_ 4 _).cell 3, (HBk.out.drew.set_ 4 (.int .u64 L1.first)).lt⟩
    refine Rg.store 10 (w' := ((wC.drew.setCell ⟨p, 4, none⟩ (.int .u64 L1.first)))) (hrun := ?h10b) (hS := (fun _ => hS2)) (h := ?_)
    case h10b => (go_simp; try with_reducible rfl)
    refine Rg.op 11 (some 64) hS2 (v := ?v11b) (hy := fun wz hwz => ?h11b) (h := ?_)
    case h11b => (obtain ⟨c3, hp⟩ := hwz; go_simp; try with_reducible rfl)
    refine Rg.op 12 (some 65) hS2 (v := ?v12b) (hy := fun wz hwz => ?h12b) (h := ?_)
    case h12b => (go_simp; try with_reducible rfl)
    have q11 := HBk.out.frozen 11
    have c11 := HBk.out.cell 11
    simp only [List.getElem?_toArray, List.getElem?_cons_zero, List.getElem?_cons_succ] at c11
    refine Rg.store 13 (w' := ?w13b) (hrun := ?h13b) (hS := (fun h => absurd (by decide) h)) (h := ?_)
    case h13b => (go_simp; try with_reducible rfl)
    refine Rg.done _ (h := ?_)
    go_wp2_with fail
    obtain ⟨L2, hL2⟩ : ∃ L2, LS.opHead at_ n S1 = L2 := ⟨_, rfl⟩
    have HO2 := Lib.hid (HOp.out.symm.trans hL2)
    obtain ⟨wE, hE⟩ : ∃ wE, ((wC.setCell ⟨p, 4, none⟩ (.int .u64 L1.first)).setCell ⟨p, 11, none⟩ (.int .i64 (48 * ((n : Int) - 8)))).drew = wE := ⟨_, rfl⟩
    have hfE : Fr (fun b => b = p) wC wE := by rw [← hE]; exact (((Fr.refl (fun b => b = p) wC).setCell (p := ⟨p, 4, none⟩) (.inr rfl) _).setCell (p := ⟨p, 11, none⟩) (.inr rfl) _).drew
    have hlE : LogAt (fun b => b = p) wE p d lv rv L2 := by
      rw [← HO2.out]
      exact HlC.out.upd hfE _ _ _ _ _ _ _ _ hb1 hb1 HlC.out.b3 HlC.out.b4 HlC.out.b5 HlC.out.b6 HlC.out.b7 (by rw [← hE]; exact ((HBk.out.set_ 4 _).set_ 11 _).drew)
    have HWE : Hid (WalIn wE p d L2 S1 (fun b => b = p) RD) := by
      refine ⟨⟨lv, rv, hlE⟩, HC.out.d.fr hfE (fun b hb e => hap (by subst e; exact hb)), HC.out.apart, ?_⟩
      have := HC.out.fits
      rw [← HO2.out]
      exact this
    have HFE := Lib.hid (FrD.step' HFC.out hfE (fun i hi h => absurd hi (by have := HP.out; omega)))
    have h2k : L2.n = n ∧ L2.l = [] ∧ L2.life = 0 ∧ L2.next = L2.first ∧ L2.room = 48 * ((n : Int) - 8) ∧ 1 ≤ L2.first := by
      rw [← HO2.out]
      exact ⟨Hn1.out, Hk.out.2.2.1, Hk.out.2.2.2.2.1, rfl, rfl, hf1⟩
    have H2k := Lib.hid h2k
    have hh2 := Hhead.out
    have hh3 := Hfirst.out
    rw [hL2] at hh2 hh3
    have hbl : (L2.bytes S1).length ≤ 1572768 := LS.bytes_length (fun i s hs => HWE.out.d.len64 hs) HWE.out.fits hlE.n0 hlE.n1 hlE.b6
    have hml : (L2.streamed S1).life < 281474976710656 := LS.str_ml (by rw [h2k.2.2.1]; omega) _
    have HSt := Lib.hid (stream_any HWE.out Hd1.out)
    have HL2 := Lib.hid hL2
    have hEsz := HFE.out.size
    rw [hE]
    clear hlE hfE hE h2k hL2 HO2 HOp HlC HBk HC HFC HSz Hk Hn1 hS
    refine HSt.out.mono ?_
    rintro e wF ⟨A, c, rfl, hbi, hbc, hAa, hWF, hfF⟩
    have hfz := hfF.size
    have hpE : p < wE.heap.size := HWE.out.l.lt rfl
    have HDF := Lib.hid hWF.d
    have HFF := Lib.hid (FrD.step' HFE.out hfF (fun i hi h => absurd hi (by have := HP.out; omega)))
    have htk := take_any A c (L2.bytes S1) hWF.l hbi hbc (fun a ha => ⟨(hAa a ha).2, fun e => by have := (hAa a ha).1; omega⟩) (by omega) (by rw [show (L2.streamed S1).l = L2.l from rfl, H2k.out.2.1]; simp) (by show L2.fin < _; omega) (by show L2.next < _; rw [H2k.out.2.2.2.1]; omega) (by show _ ≤ L2.room; rw [H2k.out.2.2.2.2.1]; omega) (by show L2.room ≤ _; rw [H2k.out.2.2.2.2.1]; omega)
    have HTk := Lib.hid htk
    have hfits := HWE.out.fits
    clear htk hbi hAa hbc hWF HSt HFE HWE
    go_wp2_with fail
    refine HTk.out.mono ?_
    rintro e wG ⟨rfl, hlG, hfG⟩
    obtain ⟨L4, hL4⟩ : ∃ L4, (L2.streamed S1).take (L2.bytes S1).length (L2.bytes S1) = L4 := ⟨_, rfl⟩
    have hk4 := LS.take_kept (L2.bytes S1).length (L2.streamed S1) (L2.bytes S1)
    rw [hL4] at hlG hk4
    have hopened : LS.opened at_ n S1 = { L4 with life := L4.life + 1, kept := L4.fin, flushed := L4.next - 1 } := by
      unfold LS.opened LS.opTake
      rw [HL2.out, hL4]
    obtain ⟨lv', rv', hlG⟩ := hlG
    have h4life : L4.life < 281474976710656 := by rw [hk4.2.2.2.1]; exact hml
    have h4next : 1 ≤ L4.next := by have h1 := hk4.2.2.2.2.2.1; have h2 : (L2.streamed S1).next = L2.next := rfl; have h3 := H2k.out; omega
    have h4next' := hlG.b2
    have hbk := hlG.blk
    have c4 := hbk.cell 4
    have c5 := hbk.cell 5
    have c7 := hbk.cell 7
    have c8 := hbk.cell 8
    have c9 := hbk.cell 9
    have q5 := hbk.frozen 5
    have q8 := hbk.frozen 8
    have q9 := hbk.frozen 9
    have hpG := hbk.lt
    simp only [List.getElem?_toArray, List.getElem?_cons_zero, List.getElem?_cons_succ] at c4 c5 c7 c8 c9
    have HBk := Lib.hid hbk
    have HlG := Lib.hid hlG
    have HOd := Lib.hid hopened
    have Hk4 := Lib.hid hk4
    have HFG := Lib.hid (FrD.step' HFF.out hfG (fun i hi h => absurd hi (by have := HP.out; omega)))
    have HDG := Lib.hid (HDF.out.fr hfG (fun b hb e => hap (by subst e; exact hb)))
    have hgz := hfG.size
    clear hlG hfG hbk hopened hk4 hL4 HDF HFF HTk
    go_wp2_with fail
    obtain ⟨wH, hH⟩ : ∃ wH, (((wG.setCell ⟨p, 9, none⟩ (.int .u64 ((L4.life : Int) + 1))).setCell ⟨p, 8, none⟩ (.int .u64 (L4.fin : Int))).setCell ⟨p, 5, none⟩ (.int .u64 ((L4.next : Int) - 1))) = wH := ⟨_, rfl⟩
    have hfH : Fr (fun b => b = p) wG wH := by rw [← hH]; exact (((Fr.refl (fun b => b = p) wG).setCell (p := ⟨p, 9, none⟩) (.inr rfl) _).setCell (p := ⟨p, 8, none⟩) (.inr rfl) _).setCell (p := ⟨p, 5, none⟩) (.inr rfl) _
    have hlH : LogAt (Ext (fun b => b = p) wF wG) wH p d lv' rv' (LS.opened at_ n S1) := by
      rw [HOd.out]
      refine HlG.out.upd hfH _ _ _ _ _ _ _ _ HlG.out.b1 HlG.out.b2 (by omega) HlG.out.b4 HlG.out.b4 (by omega) HlG.out.b7 ?_
      rw [← hH, show ((L4.life + 1 : Nat) : Int) = (L4.life : Int) + 1 from by omega, show ((L4.next - 1 : Nat) : Int) = (L4.next : Int) - 1 from by omega]
      exact ((HBk.out.set_ 9 _).set_ 8 _).set_ 5 _
    have hdH := HDG.out.fr hfH (fun b hb e => hap (by subst e; exact hb))
    have hWH : WalIn wH p d (LS.opened at_ n S1) S1 (Ext (fun b => b = p) wF wG) RD := by
      refine ⟨⟨lv', rv', hlH⟩, hdH, fun b hb hd => ?_, ?_⟩
      · rcases hb with hb | hb
        · exact hap (by subst hb; exact hd)
        · have := HRlt.out b hd; omega
      · rw [HOd.out]
        show L4.start + L4.n ≤ _
        rw [Hk4.out.1, Hk4.out.2.1]
        exact hfits
    have htr := trim_any hWH Hd1.out HW1.out
    rw [Hcode.out] at htr
    have HTr := Lib.hid htr
    have HWH := Lib.hid hWH
    have HFH := Lib.hid (FrD.step' HFG.out hfH (fun i hi h => absurd hi (by have := HP.out; omega)))
    have hhz := hfH.size
    clear htr hlH hdH hWH
    rw [hH]
    clear hfH hH
    refine HTr.out.mono ?_
    rintro e wI ⟨rfl, hlI, hdI, hfI⟩
    go_wp2
    go_ret2
    rw [HS1.out]
    refine ⟨p, rfl, by have := HP.out; omega, ⟨Ext (fun b => b = p) wF wG, Ext RD wH wI, ⟨hlI, hdI, ?_, ?_⟩, ?_, ?_⟩, FrD.step HFH.out (fun _ h => h) hfI (fun _ _ h => h)⟩
    · rintro b hb (hd | hd)
      · exact HWH.out.apart b hb hd
      · rcases hb with hb | hb
        · subst hb; have := hd.1; omega
        · have := hd.1; have := hb.2; omega
    · rw [show ((LS.opened at_ n S1).trimmed S1).now.length = S1.now.length from trimmed_length _ _]
      exact HWH.out.fits
    · rintro b (hb | hb)
      · subst hb; have := HP.out; omega
      · have := HP.out; have := hb.1; omega
    · rintro b (hb | hb)
      · exact .inl hb
      · have := HP.out; have := hb.1; exact .inr (by omega)
end Go.Proofs.YtccmmnacejdeoaaGreatDoor
