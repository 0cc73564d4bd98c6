/-
  WalClone, WalTake, in one text.
-/
import Derived.Test.YtccmmnacejdeoaaGreatDoorMg02
import Derived.Test.YtccmmnacejdeoaaGreatDoorMg09
/-
  bytes.Clone.
-/
namespace Go.Proofs.YtccmmnacejdeoaaGreatDoor
set_option linter.unusedSimpArgs false
set_option linter.unusedVariables false
open Go.RowKit

set_option maxHeartbeats 400000 in
set_option maxRecDepth 100000 in
theorem bytesClone_any (a : Addr) (n c : Nat) (s : List UInt8) (w : World) (hs : s.length = n) (hc : ∀ j u, (bts s)[j]? = some u → w.cell? (a.add j) = some u) (hb : a.block < w.heap.size) (hn : n ≤ 140737488351232) :
    Calls Tryz.prog 31 #[.slice (some a) n c] w fun e w' => ∃ v', e = .returned v' ∧ w'.ownsRow w.heap.size 5 1 v' n (bts s) ∧ v' ≠ .slice none 0 0 ∧ Fr Nob w w' := by
  obtain ⟨i0, hi, hz0, hz1, hz2⟩ := info_parts info_u8
  have Hc := Lib.hid hc
  have Hs := Lib.hid hs
  clear hc hs
  have c1 : Hid ((bts s).length = n * 1) := by rw [bts_length, Hs.out]; show n = n * 1; omega
  have c2 : Hid (∀ j u, (bts s)[j]? = some u → (w.alloc (.cells #[] 5)).cell? (a.add j) = some u) := by
    intro j u hu; rw [World.cell?_alloc_lt _ _ _ (by unfold Addr.add; split <;> exact hb)]; exact Hc.out j u hu
  have c3 : Hid (0 + n ≤ maxLen) := by show 0 + n ≤ maxLen; unfold maxLen; omega
  have hnil := fun (w : World) (a : Option Addr) (n c n' c' : Nat) => Lib.run_eql_slice_nil (P := Tryz.prog) w 38 5 a n c n' c' Tryz.underlying38
  go_enter Tryz.func31, Tryz.ntmps31
  go_wp2_with (at_builtin; go_must (refine wpList_append_own_at _ rfl (.tmp 5) (.tmp 6) 38 rfl w.heap.size 5 i0 (.int .u8 0) 1 1 Tryz.underlying38 hi hz0 hz1 hz2 rfl (by decide) (.slice (some ⟨w.heap.size, 0, none⟩) 0 0) 0 [] rfl (World.ownsRow_made w #[] 0 (Nat.le_refl _) (by decide) rfl) a n c (bts s) rfl c1.out c2.out (bts_one s) c3.out (by omega) (by simp) ?_); intro v' w1 hown hg hn0 hat)
  go_ret
  refine ⟨v', rfl, by simpa using hown, by rw [Ne, hn0]; simp, ?_⟩
  exact ((Fr.refl _ _).alloc _).grown hg (fun k hk => .inl (Nat.le_of_eq (by simpa [Value.ownBlock] using hk)))
end Go.Proofs.YtccmmnacejdeoaaGreatDoor

/-
  The records of bytes: take.
-/
namespace Go.Proofs.YtccmmnacejdeoaaGreatDoor
set_option linter.unusedSimpArgs false
set_option linter.unusedVariables false
open Go.RowKit

section
variable {R R' : Nat → Prop} {w : World} {p d : Nat} {L : LS}
theorem LogAt.more {lv : Value} {rv : List (Value × Nat)} (h : LogAt R w p d lv rv L) (hr : ∀ b, R b → R' b) (hl : ∀ b, R' b → b < w.heap.size) : LogAt R' w p d lv rv L :=
  { h with
    recs := ⟨h.recs.1, fun i x y hx hy => ⟨(h.recs.2 i x y hx hy).1, (h.recs.2 i x y hx hy).2.1, (h.recs.2 i x y hx hy).2.2.more hr⟩⟩
    rp := hr _ h.rp
    rl := fun g hg => hr _ (h.rl g hg)
    lt := hl }
theorem LogOk.more (h : LogOk R w p d L) (hr : ∀ b, R b → R' b) (hl : ∀ b, R' b → b < w.heap.size) : LogOk R' w p d L := by
  obtain ⟨lv, rv, h⟩ := h; exact ⟨lv, rv, h.more hr hl⟩
theorem LogOk.lt (h : LogOk R w p d L) {b : Nat} (hb : R b) : b < w.heap.size := by
  obtain ⟨lv, rv, h⟩ := h; exact h.lt b hb
end

/-- The length that a record's frame tells. -/
def tkN (b : List UInt8) : Nat := getN ((b.drop 4).take 4)
def tkRec (b : List UInt8) : List UInt8 := (b.drop 16).take (tkN b)
/-- Do bytes begin with the record that comes next? -/
def tkOk (x : Nat) (b : List UInt8) : Prop := 16 ≤ b.length ∧ tkN b ≤ 2000 ∧ 16 + tkN b ≤ b.length ∧ getN ((b.drop 8).take 8) = x ∧ fraB x (tkRec b) = b.take (16 + tkN b)
instance (x : Nat) (b : List UInt8) : Decidable (tkOk x b) := by unfold tkOk; infer_instance
def LS.take : Nat → LS → List UInt8 → LS
  | 0, L, _ => L
  | k + 1, L, b => if tkOk L.next b then LS.take k (L.add (tkRec b)) (b.drop (16 + tkN b)) else L
theorem LS.take_no {k : Nat} {L : LS} {b : List UInt8} (h : ¬ tkOk L.next b) : L.take k b = L := by
  cases k with
  | zero => rfl
  | succ k => simp only [LS.take]; rw [if_neg h]
theorem tkRec_length {b : List UInt8} (h : 16 + tkN b ≤ b.length) : (tkRec b).length = tkN b := by
  unfold tkRec; rw [List.length_take, List.length_drop]; omega

/-- One contract of bytes.Clone for a cut. -/
theorem bytesClone_cut {w : World} (a : Addr) (c : Nat) (s : List UInt8) (h : BytesIn w (some a) s) (hb : a.block < w.heap.size) (hn : s.length ≤ 140737488351232) :
    Calls Tryz.prog 31 #[.slice (some a) s.length c] w fun e w' => ∃ g cap, e = .returned (.slice (some ⟨g, 0, none⟩) s.length cap) ∧ w'.ownsRow w.heap.size 5 1 (.slice (some ⟨g, 0, none⟩) s.length cap) s.length (bts s) ∧ Fr Nob w w' := by
  refine (bytesClone_any a s.length c s w rfl ?_ hb hn).mono ?_
  · intro j u hu
    have h0 : 0 < s.length := by have := (List.getElem?_eq_some_iff.1 hu).1; rw [bts_length] at this; omega
    obtain ⟨g, o, e, hc⟩ := h h0
    injection e with e
    subst e
    exact bytesIn_cells h j u hu
  · rintro e w' ⟨v', rfl, ho, hne, hf⟩
    rcases ho.2 with ⟨e, _⟩ | ⟨g, cap, cur, e, _⟩
    · exact absurd e hne
    · subst e
      exact ⟨g, cap, rfl, ho, hf⟩

set_option maxHeartbeats 1600000 in
set_option maxRecDepth 100000 in
theorem take_any {w : World} {p d : Nat} {L : LS} {R : Nat → Prop} (A : Option Addr) (c : Nat) (b : List UInt8) (h : LogOk R w p d L) (hb : BytesIn w A b) (hbc : b.length ≤ c) (hA : ∀ a, A = some a → a.block < w.heap.size ∧ ¬ R a.block)
    (hlen : b.length ≤ 2000000) (hll : L.l.length ≤ 2000000000) (hfin : L.fin < 9223372036854775808) (hnext : L.next < 9223372036854775808) (hr0 : -1000000000000 ≤ L.room) (hr1 : L.room ≤ 1000000000000) :
    Calls Tryz.prog 46 #[.pointer (some ⟨p, 0, none⟩), .slice A b.length c] w fun e w' => e = .returned (.tuple #[]) ∧ LogOk (Ext R w w') w' p d (L.take b.length b) ∧ Fr R w w' := by
  have H := Lib.hid h
  have HB0 := Lib.hid hb
  have HA0 := Lib.hid hA
  have HLw : Hid (∀ x, R x → x < w.heap.size) := fun x hx => h.lt hx
  have HL0 : Hid (LogOk (Ext R w w) w p d L) := h.more (fun x hx => .inl hx) (fun x hx => by rcases hx with hx | hx; exact h.lt hx; omega)
  have HF0 : Hid (Fr R w w) := Fr.refl _ _
  clear h hb hA
  obtain ⟨nb, hnb⟩ : ∃ nb, b.length = nb := ⟨_, rfl⟩
  have HNb := Lib.hid hnb
  go_enter Tryz.func46, Tryz.ntmps46
  go_wp2
  go_loopw [1, 4] (fun v _ wr => ∃ (k : Nat) (M : LS) (x : List UInt8) (A : Option Addr) (c : Nat), v = .slice A x.length c ∧ x.length ≤ k ∧ x.length ≤ c ∧ Hid (BytesIn wr A x) ∧ Hid (∀ a, A = some a → a.block < w.heap.size ∧ ¬ R a.block) ∧ Hid (L.take b.length b = M.take k x) ∧ Hid (LogOk (Ext R w wr) wr p d M) ∧ Hid (Fr R w wr) ∧
    M.l.length + x.length ≤ 2002000000 ∧ M.fin + x.length ≤ 9223372036856775808 ∧ M.next + x.length ≤ 9223372036856775808 ∧ -1000002000000 ≤ M.room - x.length ∧ M.room ≤ 1000000000000 ∧ x.length ≤ 2000000) (fun v _ _ => match v with | .slice _ n _ => n | _ => 0)
  case atStart => exact ⟨b.length, L, b, A, c, by rw [hnb], by omega, by omega, HB0, HA0, Lib.hid rfl, HL0, HF0, by omega, by omega, by omega, by omega, by omega, by omega⟩
  case round =>
    clear HL0 HF0 HB0 HA0
    obtain ⟨k, M, x, A', c', rfl, hxk, hxc, hB, hA, hT, hL, hF, g1, g2, g3, g4, g5, g6⟩ := hrel
    clear hnb
    by_cases h16 : 16 ≤ x.length
    · obtain ⟨g, o, rfl, hcs⟩ := hB.out (by omega)
      have hga := hA.out _ rfl
      have hgw : g < w.heap.size := hga.1
      have hgr : ¬ R g := hga.2
      clear hcs hga
      have hFsz := hF.out.size
      have hgwr : g < wr.heap.size := by omega
      have hn4 : tkN x < 18446744073709551616 := getN_lt _
      have hN8' : getN ((x.drop 8).take 8) < 18446744073709551616 := getN_lt _
      have hM := hL.out
      obtain ⟨lv, rv, hM⟩ := hM
      have hbk := hM.blk
      have c4 := hbk.cell 4
      have hp := hbk.lt
      simp only [List.getElem?_toArray, List.getElem?_cons_zero, List.getElem?_cons_succ] at c4
      have HBk := Lib.hid hbk
      have hMn := hM.b2
      clear hM hbk
      have HG4 : Hid (∀ c, Calls Tryz.prog 67 #[.slice (some ⟨g, o + 4, none⟩) 4 c] wr fun e w' => e = .returned (.int .u64 (tkN x)) ∧ wr = w') := fun c => by
        have := get_any (some ⟨g, o + 4, none⟩) c ((x.drop 4).take 4) wr (by have := bytesIn_cut hB.out 4 4 (x.length + 5) (by omega) (by omega); unfold cutA at this; rwa [if_neg (by omega)] at this) (by rw [List.length_take]; omega)
        rwa [show ((x.drop 4).take 4).length = 4 from by rw [List.length_take, List.length_drop]; omega] at this
      have HG8 : Hid (∀ n c, Calls Tryz.prog 67 #[.slice (some ⟨g, o + 8, none⟩) 8 c] (wr.drewN n) fun e w' => e = .returned (.int .u64 (getN ((x.drop 8).take 8))) ∧ wr.drewN n = w') := fun n c => by
        have := get_any (some ⟨g, o + 8, none⟩) c ((x.drop 8).take 8) (wr.drewN n) (by have := bytesIn_cut (w := wr.drewN n) hB.out 8 8 (x.length + 9) (by omega) (by omega); unfold cutA at this; rwa [if_neg (by omega)] at this) (by rw [List.length_take]; omega)
        rwa [show ((x.drop 8).take 8).length = 8 from by rw [List.length_take, List.length_drop]; omega] at this
      obtain ⟨n8, hn8⟩ : ∃ n8, getN ((x.drop 8).take 8) = n8 := ⟨_, rfl⟩
      have HN8 := Lib.hid hn8
      rw [hn8] at HG8 hN8'
      clear hn8
      go_wp2_with (go_at_call 67; refine (HG4.out _).mono ?_; rintro e w' ⟨rfl, rfl⟩)
      have hS : Fr Nob wr wr.drew := (Fr.refl _ wr).drew
      have HEnd : Hid (¬ tkOk M.next x → ∀ W, Fr Nob wr W → LogOk (Ext R w W) W p d (L.take b.length b) ∧ Fr R w W) := by
        intro hn W hW
        rw [hT.out, LS.take_no hn]
        have := hW.size
        exact ⟨(hL.out.new hW).more (fun y hy => by rcases hy with hy | hy; exact .inl hy; exact .inr ⟨hy.1, by omega⟩) (fun y hy => by rcases hy with hy | hy; have := HLw.out y hy; omega; exact hy.2), hF.out.trans (hW.mono (fun _ _ h => h.elim))⟩
      by_cases q1 : 2000 < tkN x
      · have t1 : decide (2000 < (tkN x : Int)) = true := by simp; omega
        have hno : ¬ tkOk M.next x := fun h => by have := h.2.1; omega
        have HN := Lib.hid (HEnd.out hno)
        clear hno HEnd q1
        refine Rg.begin (Fr Nob wr) [] (by kernel_rfl) ?_
        refine Rg.op 0 (some 11) hS (v := ?v0a) (hy := fun wz hwz => ?h0a) (h := ?_)
        case h0a => (go_simp; try with_reducible rfl)
        refine Rg.op 1 (some 12) hS (v := (.bool true)) (hy := fun wz hwz => ?h1a) (h := ?_)
        case h1a => (go_simp; try with_reducible rfl)
        refine Rg.op 2 (some 13) hS (v := ?v2a) (hy := fun wz hwz => ?h2a) (h := ?_)
        case h2a => (go_simp; try with_reducible rfl)
        refine Rg.pass 3 (some 14) hS (h := ?_)
        refine Rg.pass 4 (some 15) hS (h := ?_)
        refine Rg.pass 5 (some 16) hS (h := ?_)
        refine Rg.pass 6 (some 17) hS (h := ?_)
        refine Rg.pass 7 (some 18) hS (h := ?_)
        refine Rg.pass 8 (some 19) hS (h := ?_)
        refine Rg.op 9 (some 20) hS (v := ?v9a) (hy := fun wz hwz => ?h9a) (h := ?_)
        case h9a => (go_simp; try with_reducible rfl)
        refine Rg.op 10 (some 21) hS (v := ?v10a) (hy := fun wz hwz => ?h10a) (h := ?_)
        case h10a => (go_simp; try with_reducible rfl)
        refine Rg.pass 11 (some 22) hS (h := ?_)
        refine Rg.pass 12 (some 23) hS (h := ?_)
        refine Rg.pass 13 (some 24) hS (h := ?_)
        refine Rg.pass 14 (some 25) hS (h := ?_)
        refine Rg.pass 15 (some 26) hS (h := ?_)
        refine Rg.pass 16 (some 27) hS (h := ?_)
        refine Rg.pass 17 (some 28) hS (h := ?_)
        refine Rg.pass 18 (some 29) hS (h := ?_)
        refine Rg.op 19 (some 30) hS (v := ?v19a) (hy := fun wz hwz => ?h19a) (h := ?_)
        case h19a => (go_simp; try with_reducible rfl)
        refine Rg.op 20 (some 31) hS (v := ?v20a) (hy := fun wz hwz => ?h20a) (h := ?_)
        case h20a => (go_simp; try with_reducible rfl)
        refine Rg.pass 21 (some 32) hS (h := ?_)
        refine Rg.pass 22 (some 33) hS (h := ?_)
        refine Rg.pass 23 (some 34) hS (h := ?_)
        refine Rg.pass 24 (some 35) hS (h := ?_)
        refine Rg.pass 25 (some 36) hS (h := ?_)
        refine Rg.pass 26 (some 37) hS (h := ?_)
        refine Rg.pass 27 (some 38) hS (h := ?_)
        refine Rg.pass 28 (some 39) hS (h := ?_)
        refine Rg.pass 29 (some 40) hS (h := ?_)
        refine Rg.pass 30 (some 41) hS (h := ?_)
        refine Rg.pass 31 (some 42) hS (h := ?_)
        refine Rg.pass 32 (some 43) hS (h := ?_)
        refine Rg.pass 33 (some 44) hS (h := ?_)
        refine Rg.pass 34 (some 45) hS (h := ?_)
        refine Rg.pass 35 (some 46) hS (h := ?_)
        refine Rg.op 36 (some 47) hS (v := ?v36a) (hy := fun wz hwz => ?h36a) (h := ?_)
        case h36a => (go_simp; try with_reducible rfl)
        refine Rg.done _ (h := ?_)
        go_wp2
        (try simp only [Exit.inBlock, Exit.then]); refine bodyPost_ret (results_none rfl _ _ _) rfl ?_
        exact ⟨rfl, HN.out _ hS⟩
      · have t1 : decide (2000 < (tkN x : Int)) = false := by simp; omega
        by_cases q2 : x.length < 16 + tkN x
        · have t2 : decide ((x.length : Int) < 16 + (tkN x : Int)) = true := by simp; omega
          have hno : ¬ tkOk M.next x := fun h => by have := h.2.2.1; omega
          have HN := Lib.hid (HEnd.out hno)
          clear hno HEnd q2
          refine Rg.begin (Fr Nob wr) [] (by kernel_rfl) ?_
          refine Rg.op 0 (some 11) hS (v := ?v0b) (hy := fun wz hwz => ?h0b) (h := ?_)
          case h0b => (go_simp; try with_reducible rfl)
          refine Rg.op 1 (some 12) hS (v := (.bool false)) (hy := fun wz hwz => ?h1b) (h := ?_)
          case h1b => (go_simp; try with_reducible rfl)
          refine Rg.op 2 (some 13) hS (v := ?v2b) (hy := fun wz hwz => ?h2b) (h := ?_)
          case h2b => (go_simp; try with_reducible rfl)
          refine Rg.op 3 (some 14) hS (v := ?v3b) (hy := fun wz hwz => ?h3b) (h := ?_)
          case h3b => (go_simp; try with_reducible rfl)
          refine Rg.op 4 (some 15) hS (v := ?v4b) (hy := fun wz hwz => ?h4b) (h := ?_)
          case h4b => (go_simp; try with_reducible rfl)
          refine Rg.op 5 (some 16) hS (v := ?v5b) (hy := fun wz hwz => ?h5b) (h := ?_)
          case h5b => (have u1 : IntKind.u64.wrap (x.length : Int) = (x.length : Int) := (by rw [IntKind.wrap_u64]; omega); go_simp; try with_reducible rfl)
          refine Rg.op 6 (some 17) hS (v := ?v6b) (hy := fun wz hwz => ?h6b) (h := ?_)
          case h6b => (go_simp; try with_reducible rfl)
          refine Rg.op 7 (some 18) hS (v := ?v7b) (hy := fun wz hwz => ?h7b) (h := ?_)
          case h7b => (have u2 : IntKind.u64.wrap (16 + (tkN x : Int)) = 16 + (tkN x : Int) := (by rw [IntKind.wrap_u64]; omega); go_simp; try with_reducible rfl)
          refine Rg.op 8 (some 19) hS (v := (.bool true)) (hy := fun wz hwz => ?h8b) (h := ?_)
          case h8b => (go_simp; try with_reducible rfl)
          refine Rg.op 9 (some 20) hS (v := ?v9b) (hy := fun wz hwz => ?h9b) (h := ?_)
          case h9b => (go_simp; try with_reducible rfl)
          refine Rg.op 10 (some 21) hS (v := ?v10b) (hy := fun wz hwz => ?h10b) (h := ?_)
          case h10b => (go_simp; try with_reducible rfl)
          refine Rg.pass 11 (some 22) hS (h := ?_)
          refine Rg.pass 12 (some 23) hS (h := ?_)
          refine Rg.pass 13 (some 24) hS (h := ?_)
          refine Rg.pass 14 (some 25) hS (h := ?_)
          refine Rg.pass 15 (some 26) hS (h := ?_)
          refine Rg.pass 16 (some 27) hS (h := ?_)
          refine Rg.pass 17 (some 28) hS (h := ?_)
          refine Rg.pass 18 (some 29) hS (h := ?_)
          refine Rg.op 19 (some 30) hS (v := ?v19b) (hy := fun wz hwz => ?h19b) (h := ?_)
          case h19b => (go_simp; try with_reducible rfl)
          refine Rg.op 20 (some 31) hS (v := ?v20b) (hy := fun wz hwz => ?h20b) (h := ?_)
          case h20b => (go_simp; try with_reducible rfl)
          refine Rg.pass 21 (some 32) hS (h := ?_)
          refine Rg.pass 22 (some 33) hS (h := ?_)
          refine Rg.pass 23 (some 34) hS (h := ?_)
          refine Rg.pass 24 (some 35) hS (h := ?_)
          refine Rg.pass 25 (some 36) hS (h := ?_)
          refine Rg.pass 26 (some 37) hS (h := ?_)
          refine Rg.pass 27 (some 38) hS (h := ?_)
          refine Rg.pass 28 (some 39) hS (h := ?_)
          refine Rg.pass 29 (some 40) hS (h := ?_)
          refine Rg.pass 30 (some 41) hS (h := ?_)
          refine Rg.pass 31 (some 42) hS (h := ?_)
          refine Rg.pass 32 (some 43) hS (h := ?_)
          refine Rg.pass 33 (some 44) hS (h := ?_)
          refine Rg.pass 34 (some 45) hS (h := ?_)
          refine Rg.pass 35 (some 46) hS (h := ?_)
          refine Rg.op 36 (some 47) hS (v := ?v36b) (hy := fun wz hwz => ?h36b) (h := ?_)
          case h36b => (go_simp; try with_reducible rfl)
          refine Rg.done _ (h := ?_)
          go_wp2
          (try simp only [Exit.inBlock, Exit.then]); refine bodyPost_ret (results_none rfl _ _ _) rfl ?_
          exact ⟨rfl, HN.out _ hS⟩
        · have t2 : decide ((x.length : Int) < 16 + (tkN x : Int)) = false := by simp; omega
          by_cases q3 : n8 = M.next
          · have t3 : ((n8 : Int) != (M.next : Int)) = false := by rw [bne_eq_false_iff_eq]; omega
            have hrl := tkRec_length (b := x) (by omega)
            have htl : (x.take (16 + tkN x)).length = 16 + tkN x := by rw [List.length_take]; omega
            have hfr := frame_any M.next (cutA g o 16 c') (c' - 16) (tkRec x) wr.drew (bytesIn_cut (w := wr.drew) hB.out 16 (tkN x) c' hxc (by omega)) (by rw [cutA_block]; exact hgwr) (by rw [hrl]; omega) hMn
            rw [hrl] at hfr
            have HFr := Lib.hid hfr
            have HRl := Lib.hid hrl
            have HTl := Lib.hid htl
            have HQ3 : Hid (getN ((x.drop 8).take 8) = M.next) := HN8.out.trans q3
            have hcut := cutA_eq g o 16 c'
            clear hfr hrl htl q3
            refine Rg.begin (Fr Nob wr) [] (by kernel_rfl) ?_
            refine Rg.op 0 (some 11) hS (v := ?v0d) (hy := fun wz hwz => ?h0d) (h := ?_)
            case h0d => (go_simp; try with_reducible rfl)
            refine Rg.op 1 (some 12) hS (v := (.bool false)) (hy := fun wz hwz => ?h1d) (h := ?_)
            case h1d => (go_simp; try with_reducible rfl)
            refine Rg.op 2 (some 13) hS (v := ?v2d) (hy := fun wz hwz => ?h2d) (h := ?_)
            case h2d => (go_simp; try with_reducible rfl)
            refine Rg.op 3 (some 14) hS (v := ?v3d) (hy := fun wz hwz => ?h3d) (h := ?_)
            case h3d => (go_simp; try with_reducible rfl)
            refine Rg.op 4 (some 15) hS (v := ?v4d) (hy := fun wz hwz => ?h4d) (h := ?_)
            case h4d => (go_simp; try with_reducible rfl)
            refine Rg.op 5 (some 16) hS (v := ?v5d) (hy := fun wz hwz => ?h5d) (h := ?_)
            case h5d => (have u1 : IntKind.u64.wrap (x.length : Int) = (x.length : Int) := (by rw [IntKind.wrap_u64]; omega); go_simp; try with_reducible rfl)
            refine Rg.op 6 (some 17) hS (v := ?v6d) (hy := fun wz hwz => ?h6d) (h := ?_)
            case h6d => (go_simp; try with_reducible rfl)
            refine Rg.op 7 (some 18) hS (v := ?v7d) (hy := fun wz hwz => ?h7d) (h := ?_)
            case h7d => (have u2 : IntKind.u64.wrap (16 + (tkN x : Int)) = 16 + (tkN x : Int) := (by rw [IntKind.wrap_u64]; omega); go_simp; try with_reducible rfl)
            refine Rg.op 8 (some 19) hS (v := (.bool false)) (hy := fun wz hwz => ?h8d) (h := ?_)
            case h8d => (go_simp; try with_reducible rfl)
            refine Rg.op 9 (some 20) hS (v := ?v9d) (hy := fun wz hwz => ?h9d) (h := ?_)
            case h9d => (go_simp; try with_reducible rfl)
            refine Rg.op 10 (some 21) hS (v := ?v10d) (hy := fun wz hwz => ?h10d) (h := ?_)
            case h10d => (go_simp; try with_reducible rfl)
            refine Rg.op 11 (some 22) hS (v := ?v11d) (hy := fun wz hwz => ?h11d) (h := ?_)
            case h11d => (go_simp; try with_reducible rfl)
            refine Rg.op 12 (some 23) hS (v := ?v12d) (hy := fun wz hwz => ?h12d) (h := ?_)
            case h12d => (have u3 : (16 : Int) ≤ (c' : Int) := (by omega); have u4 : ¬ c' = 8 := (by omega); go_simp; try with_reducible rfl)
            refine Rg.op 14 (some 25) hS (v := ?v14d) (hy := fun wz hwz => ?h14d) (h := ?_)
            case h14d => (go_simp; try with_reducible rfl)
            refine Rg.op 15 (some 26) hS (v := ?v15d) (hy := fun wz hwz => ?h15d) (h := ?_)
            case h15d => (have hb := (HBk.out.fr hwz (fun h => h)); have c4 := hb.cell 4; have hp := hb.lt; simp only [List.getElem?_toArray, List.getElem?_cons_zero, List.getElem?_cons_succ] at c4; clear hb; go_simp; try with_reducible rfl)
            refine Rg.op 16 (some 27) hS (v := ?v16d) (hy := fun wz hwz => ?h16d) (h := ?_)
            case h16d => (go_simp; try with_reducible rfl)
            refine Rg.op 17 (some 28) hS (v := ?v17d) (hy := fun wz hwz => ?h17d) (h := ?_)
            case h17d => (have hb := (HBk.out.fr hwz (fun h => h)); have c4 := hb.cell 4; have hp := hb.lt; simp only [List.getElem?_toArray, List.getElem?_cons_zero, List.getElem?_cons_succ] at c4; clear hb; go_simp; try with_reducible rfl)
            refine Rg.call 13 (some 24) (hrun := ?h13d) (hcall := HG8.out 1 (c' - 8)) (h := ?_)
            case h13d => (go_simp)
            rintro e w5 ⟨rfl, rfl⟩
            refine ⟨_, ?a13d, rfl, ?b13d, (fun _ => hS), ?_⟩
            case b13d => (simp only [Act.put, List.setIfInBounds_toArray, List.set_cons_zero, List.set_cons_succ]; rfl)
            refine Rg.op 18 (some 29) hS (v := (.bool false)) (hy := fun wz hwz => ?h18d) (h := ?_)
            case h18d => (go_simp; try with_reducible rfl)
            refine Rg.op 19 (some 30) hS (v := ?v19d) (hy := fun wz hwz => ?h19d) (h := ?_)
            case h19d => (go_simp; try with_reducible rfl)
            refine Rg.op 20 (some 31) hS (v := ?v20d) (hy := fun wz hwz => ?h20d) (h := ?_)
            case h20d => (go_simp; try with_reducible rfl)
            refine Rg.op 21 (some 32) hS (v := ?v21d) (hy := fun wz hwz => ?h21d) (h := ?_)
            case h21d => (go_simp; try with_reducible rfl)
            refine Rg.op 22 (some 33) hS (v := ?v22d) (hy := fun wz hwz => ?h22d) (h := ?_)
            case h22d => (go_simp; try with_reducible rfl)
            refine Rg.op 23 (some 34) hS (v := ?v23d) (hy := fun wz hwz => ?h23d) (h := ?_)
            case h23d => (have hb := (HBk.out.fr hwz (fun h => h)); have c4 := hb.cell 4; have hp := hb.lt; simp only [List.getElem?_toArray, List.getElem?_cons_zero, List.getElem?_cons_succ] at c4; clear hb; go_simp; try with_reducible rfl)
            refine Rg.op 24 (some 35) hS (v := ?v24d) (hy := fun wz hwz => ?h24d) (h := ?_)
            case h24d => (have hb := (HBk.out.fr hwz (fun h => h)); have c4 := hb.cell 4; have hp := hb.lt; simp only [List.getElem?_toArray, List.getElem?_cons_zero, List.getElem?_cons_succ] at c4; clear hb; go_simp; try with_reducible rfl)
            refine Rg.op 25 (some 36) hS (v := ?v25d) (hy := fun wz hwz => ?h25d) (h := ?_)
            case h25d => (go_simp; try with_reducible rfl)
            refine Rg.op 26 (some 37) hS (v := ?v26d) (hy := fun wz hwz => ?h26d) (h := ?_)
            case h26d => (go_simp; try with_reducible rfl)
            refine Rg.op 27 (some 38) hS (v := ?v27d) (hy := fun wz hwz => ?h27d) (h := ?_)
            case h27d => (have u2 : IntKind.u64.wrap (16 + (tkN x : Int)) = 16 + (tkN x : Int) := (by rw [IntKind.wrap_u64]; omega); go_simp; try with_reducible rfl)
            refine Rg.op 28 (some 39) hS (v := (.slice (some (cutA g o 16 c')) (tkN x) (c' - 16))) (hy := fun wz hwz => ?h28d) (h := ?_)
            case h28d => (have u5 : (16 : Int) ≤ 16 + (tkN x : Int) := (by omega); have u6 : 16 + (tkN x : Int) ≤ (c' : Int) := (by omega); go_simp; omega)
            refine Rg.op 30 (some 41) hS (v := ?v30d) (hy := fun wz hwz => ?h30d) (h := ?_)
            case h30d => (go_simp; try with_reducible rfl)
            refine Rg.op 31 (some 42) hS (v := ?v31d) (hy := fun wz hwz => ?h31d) (h := ?_)
            case h31d => (go_simp; try with_reducible rfl)
            refine Rg.op 32 (some 43) hS (v := ?v32d) (hy := fun wz hwz => ?h32d) (h := ?_)
            case h32d => (have u2 : IntKind.u64.wrap (16 + (tkN x : Int)) = 16 + (tkN x : Int) := (by rw [IntKind.wrap_u64]; omega); go_simp; try with_reducible rfl)
            refine Rg.op 33 (some 44) hS (v := (.slice (some ⟨g, o, none⟩) (16 + tkN x) c')) (hy := fun wz hwz => ?h33d) (h := ?_)
            case h33d => (have u5 : (0 : Int) ≤ 16 + (tkN x : Int) := (by omega); have u6 : 16 + (tkN x : Int) ≤ (c' : Int) := (by omega); go_simp; omega)
            refine Rg.call 29 (some 40) (hrun := ?h29d) (hcall := HFr.out) (h := ?_)
            case h29d => (go_simp)
            rintro e w5 ⟨v5, rfl, ho5, hf5⟩
            have hS5 : Fr Nob wr w5 := hS.trans hf5
            obtain ⟨g5, cap5, rfl, _, hg5⟩ := ho5.form (by omega)
            have heq := Equal_any (some ⟨g5, 0, none⟩) (some ⟨g, o, none⟩) cap5 c' (fraB M.next (tkRec x)) (x.take (16 + tkN x)) w5 (bytesIn_own ho5) (bytesIn_take (hB.out.new hS5) _)
            rw [fraB_length, HRl.out, HTl.out] at heq
            have HEq := Lib.hid heq
            clear heq ho5 hf5
            refine ⟨_, ?a29d, rfl, ?b29d, (fun _ => hS5), ?_⟩
            case b29d => (simp only [Act.put, List.setIfInBounds_toArray, List.set_cons_zero, List.set_cons_succ]; rfl)
            refine Rg.call 34 (some 45) (hrun := ?h34d) (hcall := HEq.out) (h := ?_)
            case h34d => (go_simp)
            rintro e w6 ⟨rfl, rfl⟩
            obtain ⟨bq, hbq⟩ : ∃ bq, (fraB M.next (tkRec x) == x.take (16 + tkN x)) = bq := ⟨_, rfl⟩
            rw [hbq]
            have HBq := Lib.hid hbq
            clear hbq
            refine ⟨_, ?a34d, rfl, ?b34d, (fun _ => hS5), ?_⟩
            case b34d => (simp only [Act.put, List.setIfInBounds_toArray, List.set_cons_zero, List.set_cons_succ]; rfl)
            refine Rg.op 35 (some 46) hS5 (v := ?v35d) (hy := fun wz hwz => ?h35d) (h := ?_)
            case h35d => (go_simp; try with_reducible rfl)
            refine Rg.op 36 (some 47) hS5 (v := ?v36d) (hy := fun wz hwz => ?h36d) (h := ?_)
            case h36d => (go_simp; try with_reducible rfl)
            refine Rg.done _ (h := ?_)
            cases bq
            · have HN := Lib.hid (HEnd.out (fun h => by have h1 := h.2.2.2.2; have h2 := HBq.out; rw [beq_eq_false_iff_ne] at h2; exact h2 h1))
              clear HEnd
              go_wp2
              (try simp only [Exit.inBlock, Exit.then]); refine bodyPost_ret (results_none rfl _ _ _) rfl ?_
              exact ⟨rfl, HN.out _ hS5⟩
            · have HOk : Hid (tkOk M.next x) := ⟨h16, by omega, by omega, HQ3.out, by have h2 := HBq.out; rwa [beq_iff_eq] at h2⟩
              clear HEnd
              obtain ⟨k', rfl⟩ : ∃ k', k = k' + 1 := ⟨k - 1, by omega⟩
              have hT' : Hid (L.take b.length b = (M.add (tkRec x)).take k' (x.drop (16 + tkN x))) := by
                rw [Hid, hT.out]
                simp only [LS.take]
                rw [if_pos HOk.out]
              have hB5 := hB.out.new hS5
              have hg5w : g < w5.heap.size := by have := hS5.size; omega
              have hcl := bytesClone_cut (w := w5) (cutA g o 16 c') (c' - 16) (tkRec x) (bytesIn_cut hB5 16 (tkN x) c' hxc (by omega)) (by rw [cutA_block]; exact hg5w) (by rw [HRl.out]; omega)
              rw [HRl.out] at hcl
              have HCl := Lib.hid hcl
              have HL5 := Lib.hid (hL.out.new hS5)
              have HF5 := Lib.hid (hF.out.trans (hS5.mono (fun _ _ h => h.elim)))
              have HB5 := Lib.hid hB5
              clear hcl hB5 hB hT
              go_wp2_with fail
              refine HCl.out.mono ?_
              rintro e w7 ⟨g7, cap7, rfl, ho7, hf7⟩
              have hz7 := hf7.size
              have hz5 := HF5.out.size
              have hL7 : LogOk (Ext R w w7) w7 p d M := (HL5.out.new hf7).more (fun y hy => by
                rcases hy with hy | hy
                · exact .inl hy
                · have := hS5.size; exact .inr ⟨hy.1, by omega⟩) (fun y hy => by
                rcases hy with hy | hy
                · have := HLw.out y hy; omega
                · exact hy.2)
              have hrec : RecIn (Ext R w w7) w7 (.slice (some ⟨g7, 0, none⟩) (tkRec x).length cap7) (tkRec x) := by
                have hl := ho7.lt g7 rfl
                refine ⟨?_, fun y hy => ?_⟩
                · rw [HRl.out]; exact own_base ho7 (fun _ _ => Nat.zero_le _)
                · have : y = g7 := by simpa [Value.ownBlock] using hy.symm
                  subst this
                  exact .inr ⟨by omega, hl.2⟩
              have had := add_any (some ⟨g7, 0, none⟩) cap7 (tkRec x) hL7 (by simp) hrec (by omega) (by rw [HRl.out]; omega) (by omega) (by rw [HRl.out]; omega) (by omega) (by omega)
              rw [HRl.out] at had
              have HAd := Lib.hid had
              clear had hrec hL7 ho7
              go_wp2_with fail
              refine HAd.out.mono ?_
              rintro e w8 ⟨rfl, hl8, hf8⟩
              have hz8 := hf8.size
              have HL8 : Hid (LogOk (Ext R w w8) w8 p d (M.add (tkRec x))) := hl8.more (fun y hy => by
                rcases hy with (hy | hy) | hy
                · exact .inl hy
                · exact .inr ⟨hy.1, by omega⟩
                · exact .inr ⟨by omega, hy.2⟩) (fun y hy => by
                rcases hy with hy | hy
                · have := HLw.out y hy; omega
                · exact hy.2)
              have HF8 : Hid (Fr R w w8) := (HF5.out.trans (hf7.mono (fun _ _ h => h.elim))).step hf8 (fun i hi h => by rcases h with h | h; exact h; omega)
              have HB8 : Hid (BytesIn w8 (some (cutA g o (16 + tkN x) c')) (x.drop (16 + tkN x))) := by
                refine bytesIn_drop ((HB5.out.new hf7).fr hf8 (fun a ha => ?_)) _ _ hxc (by omega)
                injection ha with ha
                subst ha
                rintro (h | h)
                · exact hgr h
                · have := h.1; exact absurd hgw (by simp only at this; omega)
              have HA8 : Hid (∀ a, some (cutA g o (16 + tkN x) c') = some a → a.block < w.heap.size ∧ ¬ R a.block) := by
                intro a ha
                injection ha with ha
                subst ha
                rw [cutA_block]
                exact ⟨hgw, hgr⟩
              have HDl : Hid ((x.drop (16 + tkN x)).length = x.length - (16 + tkN x)) := List.length_drop
              have HM8 : Hid ((M.add (tkRec x)).l.length = M.l.length + 1 ∧ (M.add (tkRec x)).fin = M.fin + (16 + tkN x) ∧ (M.add (tkRec x)).next = M.next + 1 ∧ (M.add (tkRec x)).room = M.room - (16 + tkN x)) := by
                exact ⟨by simp [LS.add], by show M.fin + (16 + (tkRec x).length) = _; rw [HRl.out], rfl, by show M.room - (16 + ((tkRec x).length : Int)) = _; rw [HRl.out]⟩
              clear hl8 hf8 hf7 HL5 HF5 HB5 HCl HAd
              have hcut2 := cutA_eq g o (16 + tkN x) c'
              go_wp2
              have hdl := HDl.out
              obtain ⟨m1, m2, m3, m4⟩ := HM8.out
              go_roundw
              case rel => exact ⟨k', M.add (tkRec x), x.drop (16 + tkN x), some (cutA g o (16 + tkN x) c'), c' - (16 + tkN x), by rw [hcut2, hdl], by rw [hdl]; omega, by rw [hdl]; omega, HB8, HA8, hT', HL8, HF8, by rw [hdl, m1]; omega, by rw [hdl, m2]; omega, by rw [hdl, m3]; omega, by rw [hdl, m4]; omega, by rw [m4]; omega, by rw [hdl]; omega⟩
              case measure => show x.length - (16 + tkN x) < x.length; omega
          · have t3 : ((n8 : Int) != (M.next : Int)) = true := by rw [bne_iff_ne]; omega
            have hno : ¬ tkOk M.next x := fun h => q3 (by rw [← HN8.out]; exact h.2.2.2.1)
            have HN := Lib.hid (HEnd.out hno)
            clear hno HEnd q3
            refine Rg.begin (Fr Nob wr) [] (by kernel_rfl) ?_
            refine Rg.op 0 (some 11) hS (v := ?v0c) (hy := fun wz hwz => ?h0c) (h := ?_)
            case h0c => (go_simp; try with_reducible rfl)
            refine Rg.op 1 (some 12) hS (v := (.bool false)) (hy := fun wz hwz => ?h1c) (h := ?_)
            case h1c => (go_simp; try with_reducible rfl)
            refine Rg.op 2 (some 13) hS (v := ?v2c) (hy := fun wz hwz => ?h2c) (h := ?_)
            case h2c => (go_simp; try with_reducible rfl)
            refine Rg.op 3 (some 14) hS (v := ?v3c) (hy := fun wz hwz => ?h3c) (h := ?_)
            case h3c => (go_simp; try with_reducible rfl)
            refine Rg.op 4 (some 15) hS (v := ?v4c) (hy := fun wz hwz => ?h4c) (h := ?_)
            case h4c => (go_simp; try with_reducible rfl)
            refine Rg.op 5 (some 16) hS (v := ?v5c) (hy := fun wz hwz => ?h5c) (h := ?_)
            case h5c => (have u1 : IntKind.u64.wrap (x.length : Int) = (x.length : Int) := (by rw [IntKind.wrap_u64]; omega); go_simp; try with_reducible rfl)
            refine Rg.op 6 (some 17) hS (v := ?v6c) (hy := fun wz hwz => ?h6c) (h := ?_)
            case h6c => (go_simp; try with_reducible rfl)
            refine Rg.op 7 (some 18) hS (v := ?v7c) (hy := fun wz hwz => ?h7c) (h := ?_)
            case h7c => (have u2 : IntKind.u64.wrap (16 + (tkN x : Int)) = 16 + (tkN x : Int) := (by rw [IntKind.wrap_u64]; omega); go_simp; try with_reducible rfl)
            refine Rg.op 8 (some 19) hS (v := (.bool false)) (hy := fun wz hwz => ?h8c) (h := ?_)
            case h8c => (go_simp; try with_reducible rfl)
            refine Rg.op 9 (some 20) hS (v := ?v9c) (hy := fun wz hwz => ?h9c) (h := ?_)
            case h9c => (go_simp; try with_reducible rfl)
            refine Rg.op 10 (some 21) hS (v := ?v10c) (hy := fun wz hwz => ?h10c) (h := ?_)
            case h10c => (go_simp; try with_reducible rfl)
            refine Rg.op 11 (some 22) hS (v := ?v11c) (hy := fun wz hwz => ?h11c) (h := ?_)
            case h11c => (go_simp; try with_reducible rfl)
            refine Rg.op 12 (some 23) hS (v := ?v12c) (hy := fun wz hwz => ?h12c) (h := ?_)
            case h12c => (have u3 : (16 : Int) ≤ (c' : Int) := (by omega); have u4 : ¬ c' = 8 := (by omega); go_simp; try with_reducible rfl)
            refine Rg.op 14 (some 25) hS (v := ?v14c) (hy := fun wz hwz => ?h14c) (h := ?_)
            case h14c => (go_simp; try with_reducible rfl)
            refine Rg.op 15 (some 26) hS (v := ?v15c) (hy := fun wz hwz => ?h15c) (h := ?_)
            case h15c => (have hb := (HBk.out.fr hwz (fun h => h)); have c4 := hb.cell 4; have hp := hb.lt; simp only [List.getElem?_toArray, List.getElem?_cons_zero, List.getElem?_cons_succ] at c4; clear hb; go_simp; try with_reducible rfl)
            refine Rg.op 16 (some 27) hS (v := ?v16c) (hy := fun wz hwz => ?h16c) (h := ?_)
            case h16c => (go_simp; try with_reducible rfl)
            refine Rg.op 17 (some 28) hS (v := ?v17c) (hy := fun wz hwz => ?h17c) (h := ?_)
            case h17c => (have hb := (HBk.out.fr hwz (fun h => h)); have c4 := hb.cell 4; have hp := hb.lt; simp only [List.getElem?_toArray, List.getElem?_cons_zero, List.getElem?_cons_succ] at c4; clear hb; go_simp; try with_reducible rfl)
            refine Rg.call 13 (some 24) (hrun := ?h13c) (hcall := HG8.out 1 (c' - 8)) (h := ?_)
            case h13c => (go_simp)
            rintro e w5 ⟨rfl, rfl⟩
            refine ⟨_, ?a13c, rfl, ?b13c, (fun _ => hS), ?_⟩
            case b13c => (simp only [Act.put, List.setIfInBounds_toArray, List.set_cons_zero, List.set_cons_succ]; rfl)
            refine Rg.op 18 (some 29) hS (v := (.bool true)) (hy := fun wz hwz => ?h18c) (h := ?_)
            case h18c => (go_simp; try with_reducible rfl)
            refine Rg.op 19 (some 30) hS (v := ?v19c) (hy := fun wz hwz => ?h19c) (h := ?_)
            case h19c => (go_simp; try with_reducible rfl)
            refine Rg.op 20 (some 31) hS (v := ?v20c) (hy := fun wz hwz => ?h20c) (h := ?_)
            case h20c => (go_simp; try with_reducible rfl)
            refine Rg.pass 21 (some 32) hS (h := ?_)
            refine Rg.pass 22 (some 33) hS (h := ?_)
            refine Rg.pass 23 (some 34) hS (h := ?_)
            refine Rg.pass 24 (some 35) hS (h := ?_)
            refine Rg.pass 25 (some 36) hS (h := ?_)
            refine Rg.pass 26 (some 37) hS (h := ?_)
            refine Rg.pass 27 (some 38) hS (h := ?_)
            refine Rg.pass 28 (some 39) hS (h := ?_)
            refine Rg.pass 29 (some 40) hS (h := ?_)
            refine Rg.pass 30 (some 41) hS (h := ?_)
            refine Rg.pass 31 (some 42) hS (h := ?_)
            refine Rg.pass 32 (some 43) hS (h := ?_)
            refine Rg.pass 33 (some 44) hS (h := ?_)
            refine Rg.pass 34 (some 45) hS (h := ?_)
            refine Rg.pass 35 (some 46) hS (h := ?_)
            refine Rg.op 36 (some 47) hS (v := ?v36c) (hy := fun wz hwz => ?h36c) (h := ?_)
            case h36c => (go_simp; try with_reducible rfl)
            refine Rg.done _ (h := ?_)
            go_wp2
            (try simp only [Exit.inBlock, Exit.then]); refine bodyPost_ret (results_none rfl _ _ _) rfl ?_
            exact ⟨rfl, HN.out _ hS⟩
    · have hno : ¬ tkOk M.next x := fun h => h16 h.1
      have hend : Hid (L.take b.length b = M) := by rw [Hid, hT.out, LS.take_no hno]
      clear hno
      go_wp2
      go_end0
      exact ⟨rfl, by rw [hend.out]; exact hL.out, hF.out⟩
end Go.Proofs.YtccmmnacejdeoaaGreatDoor
