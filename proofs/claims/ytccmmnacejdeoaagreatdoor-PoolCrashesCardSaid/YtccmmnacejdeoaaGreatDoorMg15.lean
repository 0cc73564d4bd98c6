/-
  WalFlush, in one text.
-/
import Derived.Test.YtccmmnacejdeoaaGreatDoorMg14
/-
  Flush, where the disk lives all the way.
-/
namespace Go.Proofs.YtccmmnacejdeoaaGreatDoor
set_option linter.unusedSimpArgs false
set_option linter.unusedVariables false
open Go.RowKit

/-- From where Flush writes. -/
def LS.from0 (L : LS) (a0 : Nat) : Nat := max (L.kept / 48 * 48) a0
/-- What it writes: the bytes, from the beginning of a sector on. -/
def LS.wbs (L : LS) (a0 : Nat) : List UInt8 := zeros (L.from0 a0 % 48) ++ L.tail a0 (L.from0 a0)
/-- The disk behind the first j writes of bs, from sector number no on. -/
def LS.wrote (L : LS) (S : DS) (no : Nat) (bs : List UInt8) : Nat → DS
  | 0 => S
  | j + 1 => (LS.wrote L S no bs j).wr (L.place (no + j)) (sectB (no + j) L.life ((bs.drop (48 * j)).take 48))
/-- How many sectors bytes take. -/
def secs (n : Nat) : Nat := (n + 47) / 48
theorem LS.wrote_length (L : LS) (S : DS) (no : Nat) (bs : List UInt8) : ∀ j, (L.wrote S no bs j).now.length = S.now.length
  | 0 => rfl
  | j + 1 => by simp only [LS.wrote]; rw [DS.wr_length]; exact LS.wrote_length L S no bs j
theorem LS.wrote_waits (L : LS) (S : DS) (no : Nat) (bs : List UInt8) : ∀ j, (L.wrote S no bs j).waits.length = S.waits.length + j
  | 0 => rfl
  | j + 1 => by simp only [LS.wrote]; rw [DS.wr_waits, LS.wrote_waits L S no bs j]; rfl
def LS.flushed' (L : LS) : LS := { L with kept := L.fin, flushed := L.next - 1 }

theorem Dead_alive {RD : Nat → Prop} {w : World} {d : Nat} {S : DS} (h : DiskOk RD w d S) (hd : S.dead = false) : Calls Tryz.prog 75 #[.pointer (some ⟨d, 0, none⟩)] w fun e w' => e = .returned (.bool false) ∧ w = w' := by
  have := Dead_any h
  rwa [hd] at this

set_option maxHeartbeats 800000 in
set_option maxRecDepth 100000 in
theorem Flush_none {w : World} {p d : Nat} {L : LS} {S : DS} {R RD : Nat → Prop} (h : WalIn w p d L S R RD) (hd : S.dead = false) (hk : L.kept = L.fin) :
    Calls Tryz.prog 50 #[.pointer (some ⟨p, 0, none⟩)] w fun e w' => e = .returned (.int .i64 0) ∧ Fr Nob w w' := by
  have HDd := Lib.hid (Dead_alive (h.d.new (Fr.refl Nob w).drew) hd)
  obtain ⟨lv, rv, hL⟩ := h.l
  have HBk := Lib.hid hL.blk
  have c0 := hL.blk.cell 0
  have hp := hL.blk.lt
  simp only [List.getElem?_toArray, List.getElem?_cons_zero, List.getElem?_cons_succ] at c0
  have HK := Lib.hid hk
  clear hL h hk
  go_enter Tryz.func50, Tryz.ntmps50
  go_wp2
  have hS : Fr Nob w w.drew := (Fr.refl _ w).drew
  refine Rg.begin (Fr Nob w) [] (by kernel_rfl) ?_
  refine Rg.op 0 (some 10) hS (v := ?v0a) (hy := fun wz hwz => ?h0a) (h := ?_)
  case h0a => (go_simp; try with_reducible rfl)
  refine Rg.op 1 (some 11) hS (v := ?v1a) (hy := fun wz hwz => ?h1a) (h := ?_)
  case h1a => (have hb := (HBk.out.fr hwz (fun h => h)); have c8 := hb.cell 8; have hp := hb.lt; simp only [List.getElem?_toArray, List.getElem?_cons_zero, List.getElem?_cons_succ] at c8; clear hb; go_simp; try with_reducible rfl)
  refine Rg.op 2 (some 12) hS (v := ?v2a) (hy := fun wz hwz => ?h2a) (h := ?_)
  case h2a => (go_simp; try with_reducible rfl)
  refine Rg.op 3 (some 13) hS (v := ?v3a) (hy := fun wz hwz => ?h3a) (h := ?_)
  case h3a => (have hb := (HBk.out.fr hwz (fun h => h)); have c8 := hb.cell 8; have hp := hb.lt; simp only [List.getElem?_toArray, List.getElem?_cons_zero, List.getElem?_cons_succ] at c8; clear hb; go_simp; try with_reducible rfl)
  refine Rg.op 4 (some 14) hS (v := ?v4a) (hy := fun wz hwz => ?h4a) (h := ?_)
  case h4a => (go_simp; try with_reducible rfl)
  refine Rg.op 5 (some 15) hS (v := ?v5a) (hy := fun wz hwz => ?h5a) (h := ?_)
  case h5a => (have hb := (HBk.out.fr hwz (fun h => h)); have c7 := hb.cell 7; have hp := hb.lt; simp only [List.getElem?_toArray, List.getElem?_cons_zero, List.getElem?_cons_succ] at c7; clear hb; go_simp; try with_reducible rfl)
  refine Rg.op 6 (some 16) hS (v := ?v6a) (hy := fun wz hwz => ?h6a) (h := ?_)
  case h6a => (go_simp; try with_reducible rfl)
  refine Rg.op 7 (some 17) hS (v := ?v7a) (hy := fun wz hwz => ?h7a) (h := ?_)
  case h7a => (have hb := (HBk.out.fr hwz (fun h => h)); have c7 := hb.cell 7; have hp := hb.lt; simp only [List.getElem?_toArray, List.getElem?_cons_zero, List.getElem?_cons_succ] at c7; clear hb; go_simp; try with_reducible rfl)
  refine Rg.op 8 (some 18) hS (v := (.bool true)) (hy := fun wz hwz => ?h8a) (h := ?_)
  case h8a => (have hk := HK.out; go_simp; try with_reducible rfl)
  refine Rg.done _ (h := ?_)
  go_wp2_with fail
  refine HDd.out.mono ?_
  rintro e w' ⟨rfl, rfl⟩
  go_wp2
  go_ret
  exact ⟨rfl, hS⟩

set_option maxHeartbeats 3200000 in
set_option maxRecDepth 100000 in
theorem Flush_some {w : World} {p d : Nat} {L : LS} {S : DS} {R RD : Nat → Prop} {a0 : Nat} (h : WalIn w p d L S R RD) (hl : L.Laid a0) (hk : L.kept < L.fin) (hpos : 0 < L.l.length) (hll : L.l.length < 4000000) (hsm : ∀ x ∈ L.l, x.1.length ≤ 2000) (hfirst : L.first + L.l.length < 18446744073709551616)
    (hwl : S.waits.length + 1000000000 < 4000000000) (hnext : 1 ≤ L.next) (hfin : L.fin < 9223372036854775808) (hlen : L.fin ≤ L.kept + 1000000000)
    (hal : ∀ j, j ≤ secs (L.wbs a0).length → (L.wrote S (L.from0 a0 / 48) (L.wbs a0) j).dead = false) :
    Calls Tryz.prog 50 #[.pointer (some ⟨p, 0, none⟩)] w fun e w' => e = .returned (.int .i64 0) ∧ LogOk R w' p d L.flushed' ∧ (∃ RD', DiskOk RD' w' d (L.wrote S (L.from0 a0 / 48) (L.wbs a0) (secs (L.wbs a0).length)).flushed ∧ (∀ b, RD' b → RD b ∨ w.heap.size ≤ b)) ∧ Fr (fun b => R b ∨ RD b) w w' := by
  obtain ⟨i0, hi0, hz0, hz1, hz2⟩ := info_parts info_u8
  obtain ⟨lv, rv, hL⟩ := h.l
  have H := Lib.hid h
  have hap : ¬ RD p := h.apart p hL.rp
  have hat0 := hl.at_ 0 hpos
  rw [List.take_zero, show sizes [] = 0 from rfl, Nat.add_zero] at hat0
  have hfin0 := hl.fin
  have ha0 : a0 ≤ L.fin := by omega
  obtain ⟨g, o, c, gr, c2, elv, _, d1, _, hg, hRg⟩ := hL.rec_at 0 hpos
  rw [Nat.zero_mul, Nat.add_zero] at d1
  subst elv
  rw [hat0] at d1
  have hst1 : a0 ≤ L.from0 a0 := Nat.le_max_right _ _
  have hst2 : L.from0 a0 ≤ L.fin := Nat.max_le.2 ⟨by omega, ha0⟩
  have hst3 : L.from0 a0 < L.fin := by
    refine Nat.max_lt.2 ⟨by omega, ?_⟩
    have := sizes_ge L.rs
    rw [LS.rs_length] at this
    omega
  have hst4 : L.kept ≤ L.from0 a0 + 48 := by have : L.kept / 48 * 48 ≤ L.from0 a0 := Nat.le_max_left _ _; omega
  have HBy := Lib.hid (fun W (hW : Fr Nob w W) => bytes_any (w := W) (L.from0 a0) (h.l.new hW) hl hst1 hst2 hll hsm hfirst)
  have htl : (L.tail a0 (L.from0 a0)).length = L.fin - L.from0 a0 := by
    unfold LS.tail
    rw [List.length_drop, frames_length]; omega
  have HTl := Lib.hid htl
  have hmax : max ((L.kept : Int) / 48 * 48) (a0 : Int) = ((L.from0 a0 : Nat) : Int) := by unfold LS.from0; omega
  have HWb : Hid (L.wbs a0 = zeros (L.from0 a0 % 48) ++ L.tail a0 (L.from0 a0)) := rfl
  have HAl := Lib.hid hal
  have HLd := Lib.hid hl
  obtain ⟨st, hst⟩ : ∃ st, L.from0 a0 = st := ⟨_, rfl⟩
  rw [hst] at hst1 hst2 hst3 hst4 HBy HTl hmax HWb HAl ⊢
  have HL := Lib.hid hL
  have HBk := Lib.hid hL.blk
  have hkb := hL.b5
  have hn0 := hL.n0
  have hn1 := hL.n1
  have hlife := hL.b6
  have hnx := hL.b2
  obtain ⟨n, hn⟩ : ∃ n, L.l.length = n := ⟨_, rfl⟩
  have HN := Lib.hid hn
  rw [hn] at hpos hll hfirst HBk
  have HD1 := Lib.hid d1
  have HRg := Lib.hid hRg
  have HPl : Hid (∀ x, L.place x < S.now.length) := fun x => LS.place_lt hL.n0 h.fits x
  have hbk := HBk.out
  have x8 := hbk.cell 8
  have x6 := hbk.cell 6
  have hpw := hbk.lt
  simp only [List.getElem?_toArray, List.getElem?_cons_zero, List.getElem?_cons_succ] at x8 x6
  have tn : decide (0 < n) = true := by simpa using hpos
  clear h hl hL hal hat0 htl hst d1 hRg hsm hn hbk hfin0
  have d1' : w.cell? ⟨g, o + 1, none⟩ = some (.int .u64 a0) := HD1.out
  go_enter Tryz.func50, Tryz.ntmps50
  go_wp2
  have hS : Fr Nob w w.drew := (Fr.refl _ w).drew
  refine Rg.begin (Fr Nob w) [] (by kernel_rfl) ?_
  refine Rg.op 0 (some 10) hS (v := ?v0b) (hy := fun wz hwz => ?h0b) (h := ?_)
  case h0b => (go_simp; try with_reducible rfl)
  refine Rg.op 1 (some 11) hS (v := ?v1b) (hy := fun wz hwz => ?h1b) (h := ?_)
  case h1b => (have hb := (HBk.out.fr hwz (fun h => h)); have c8 := hb.cell 8; have hp := hb.lt; simp only [List.getElem?_toArray, List.getElem?_cons_zero, List.getElem?_cons_succ] at c8; clear hb; go_simp; try with_reducible rfl)
  refine Rg.op 2 (some 12) hS (v := ?v2b) (hy := fun wz hwz => ?h2b) (h := ?_)
  case h2b => (go_simp; try with_reducible rfl)
  refine Rg.op 3 (some 13) hS (v := ?v3b) (hy := fun wz hwz => ?h3b) (h := ?_)
  case h3b => (have hb := (HBk.out.fr hwz (fun h => h)); have c8 := hb.cell 8; have hp := hb.lt; simp only [List.getElem?_toArray, List.getElem?_cons_zero, List.getElem?_cons_succ] at c8; clear hb; go_simp; try with_reducible rfl)
  refine Rg.op 4 (some 14) hS (v := ?v4b) (hy := fun wz hwz => ?h4b) (h := ?_)
  case h4b => (go_simp; try with_reducible rfl)
  refine Rg.op 5 (some 15) hS (v := ?v5b) (hy := fun wz hwz => ?h5b) (h := ?_)
  case h5b => (have hb := (HBk.out.fr hwz (fun h => h)); have c7 := hb.cell 7; have hp := hb.lt; simp only [List.getElem?_toArray, List.getElem?_cons_zero, List.getElem?_cons_succ] at c7; clear hb; go_simp; try with_reducible rfl)
  refine Rg.op 6 (some 16) hS (v := ?v6b) (hy := fun wz hwz => ?h6b) (h := ?_)
  case h6b => (go_simp; try with_reducible rfl)
  refine Rg.op 7 (some 17) hS (v := ?v7b) (hy := fun wz hwz => ?h7b) (h := ?_)
  case h7b => (have hb := (HBk.out.fr hwz (fun h => h)); have c7 := hb.cell 7; have hp := hb.lt; simp only [List.getElem?_toArray, List.getElem?_cons_zero, List.getElem?_cons_succ] at c7; clear hb; go_simp; try with_reducible rfl)
  refine Rg.op 8 (some 18) hS (v := (.bool false)) (hy := fun wz hwz => ?h8b) (h := ?_)
  case h8b => (have hk2 : ((L.kept : Int) == (L.fin : Int)) = false := (by rw [beq_eq_false_iff_ne]; omega); go_simp; try with_reducible rfl)
  refine Rg.done _ (h := ?_)
  go_wp2_with fail
  refine (HBy.out _ hS).mono ?_
  rintro e w2 ⟨A, cA, rfl, hbi, hbc, hAa, hf2⟩
  have htp : 0 < (L.tail a0 st).length := by rw [HTl.out]; omega
  obtain ⟨gA, oA, rfl, _⟩ := hbi htp
  have hf2' : Fr Nob w w2 := hS.trans hf2
  have hz2' := hf2'.size
  have hgA := hAa _ rfl
  obtain ⟨q, hq⟩ : ∃ q, st % 48 = q := ⟨_, rfl⟩
  have hq48 : q < 48 := by omega
  have eq1 : (st : Int) % 48 = (q : Int) := by omega
  have hno0 : st / 48 ≤ 384307168202282325 := by omega
  obtain ⟨no, hno⟩ : ∃ no, st / 48 = no := ⟨_, rfl⟩
  have e9 : (st : Int) / 48 = (no : Int) := by omega
  rw [hno] at HAl hno0
  have HNo := Lib.hid hno
  clear hno
  have hmk : (Instr.makeSlice 38 (.int .u64 (q : Int)) (.int .u64 (q : Int))).run Tryz.prog w2 = .ok (.slice (some ⟨w2.heap.size, 0, none⟩) q q) (w2.alloc (.cells (bts (zeros q)).toArray 5)) := by
    have := run_make (P := Tryz.prog) w2 38 5 i0 (.int .u8 0) Tryz.underlying38 hi0 hz0 .u64 .u64 (q : Int) (q : Int) (by omega) (by omega) (by rw [hz2]; omega) (by omega)
    rw [this, hz1, show (Value.int .u8 0).cells = #[Value.int .u8 0] from rfl, madeCells_toArray]
    simp [bts, zeros]
  have hown3 : Hid ((w2.alloc (.cells (bts (zeros q)).toArray 5)).ownsRow (w.heap.size) 5 1 (.slice (some ⟨w2.heap.size, 0, none⟩) q q) q (bts (zeros q))) :=
    ⟨by rw [bts_length, zeros_length]; omega, .inr ⟨w2.heap.size, q, (bts (zeros q)).toArray, rfl, hz2', Blk.new _ _ _, Nat.le_refl _, by unfold maxLen; omega, by simp [bts_length, zeros_length], by rw [List.take_of_length_le (by simp [bts_length, zeros_length])]⟩⟩
  obtain ⟨tl, htl⟩ : ∃ tl, L.tail a0 st = tl := ⟨_, rfl⟩
  obtain ⟨tn', htn⟩ : ∃ t, tl.length = t := ⟨_, rfl⟩
  have htnb : tn' ≤ 1000000100 := by have := HTl.out; rw [htl, htn] at this; omega
  rw [htl] at hbi hbc htp HTl HWb
  rw [htl]
  rw [htn] at hbc htp HTl
  rw [htn]
  rw [hq] at HWb
  have HQ := Lib.hid hq
  have c1 : Hid ((bts tl).length = tn' * 1) := by rw [Hid, bts_length, htn]; omega
  have c2x : Hid (∀ j u, (bts tl)[j]? = some u → (w2.alloc (.cells (bts (zeros q)).toArray 5)).cell? ((⟨gA, oA, none⟩ : Addr).add j) = some u) := fun j u hu =>
    bytesIn_cells (hbi.new ((Fr.refl Nob w2).alloc _)) j u hu
  have HTn := Lib.hid htn
  have hbz : w.heap.size ≤ (w2.alloc (.cells (bts (zeros q)).toArray 5)).heap.size := by rw [World.size_alloc]; omega
  clear hbi hAa htl htn hq hf2 x8 x6 hmax
  go_wp2_with (at_builtin; go_must (refine wpList_append_own_at _ rfl (.tmp 53) (.tmp 54) 38 rfl w.heap.size 5 i0 (.int .u8 0) 1 1 Tryz.underlying38 hi0 hz0 hz1 hz2 rfl (by decide) (.slice (some ⟨w2.heap.size, 0, none⟩) q q) q (bts (zeros q)) rfl hown3.out ⟨gA, oA, none⟩ tn' cA (bts tl) rfl c1.out c2x.out (bts_one tl) (by unfold maxLen; omega) (by omega) hbz ?_); intro v7 w7 hown7 hg7 hn7 hat7)
  obtain ⟨g7, cap7, ev7, hg7b, hg7l⟩ := hown7.form (by omega)
  subst ev7
  have hF7 : Fr Nob w w7 := by
    refine Fr.grown (hf2'.alloc _) hg7 (fun x hx => .inl ?_)
    have : x = w2.heap.size := by simpa [Value.ownBlock] using hx.symm
    omega
  have hcap7 : q + tn' ≤ cap7 := by
    rcases hown7.2 with ⟨e, _⟩ | ⟨g', cap', cur, e, _, _, h5, _⟩
    · cases e
    · injection e with _ _ e; omega
  obtain ⟨bs, hbs⟩ : ∃ bs, L.wbs a0 = bs := ⟨_, rfl⟩
  have hbl : bs.length = q + tn' := by rw [← hbs, HWb.out, List.length_append, zeros_length, HTn.out]
  have HBi7 : Hid (BytesIn w7 (some ⟨g7, 0, none⟩) bs) := by
    refine bytesIn_own (base := w.heap.size) (n := q + tn') (cap := cap7) ?_
    rw [← hbs, HWb.out, bts_append]; exact hown7
  have HBs := Lib.hid hbs
  rw [hbs] at HAl
  have HL7 : Hid (LogAt R w7 p d (.slice (some ⟨g, o, none⟩) n c) rv L) := by rw [← HN.out]; exact HL.out.fr hF7 (fun _ _ h => h)
  have HD7 := Lib.hid (H.out.d.new hF7)
  have HF7 := Lib.hid hF7
  have hz7 := hF7.size
  have HGr := Lib.hid hg7l
  have HBl := Lib.hid hbl
  clear hown7 hg7 hn7 hat7 hown3 c1 c2x hmk hbs hF7 hbl
  go_wp2
  clear e9 eq1
  go_loopw [4, 5, 7, 8] (fun v nn _ _ wr => ∃ (j : Nat) (x : List UInt8) (A : Option Addr) (c' : Nat) (RDj : Nat → Prop), j ≤ secs bs.length ∧ Hid (x = bs.drop (48 * j)) ∧ v = .slice A x.length c' ∧ x.length ≤ c' ∧ nn = .int .u64 ((no + j : Nat) : Int) ∧ Hid (BytesIn wr A x) ∧ Hid (∀ a, A = some a → w.heap.size ≤ a.block ∧ a.block < w7.heap.size) ∧
    Hid (LogAt R wr p d (.slice (some ⟨g, o, none⟩) n c) rv L) ∧ Hid (DiskOk RDj wr d (L.wrote S no bs j)) ∧ Hid (∀ b, RDj b → RD b ∨ w7.heap.size ≤ b) ∧ Hid (Fr RD w7 wr)) (fun v _ _ _ _ => match v with | .slice _ n _ => n | _ => 0)
  case atStart => exact ⟨0, bs, some ⟨g7, 0, none⟩, cap7, RD, Nat.zero_le _, rfl, by rw [HBl.out], by rw [HBl.out]; exact hcap7, by rw [Nat.add_zero], HBi7, (fun a ha => by injection ha with ha; subst ha; exact ⟨hg7b, hg7l⟩), HL7, HD7, (fun b hb => .inl hb), Fr.refl _ _⟩
  case round =>
    obtain ⟨j, x, A', c', RDj, hj, hx, rfl, hxc, rfl, hB, hA, hL, hD, hRD, hF⟩ := hrel
    clear HL7 HD7 HBi7
    obtain ⟨xl, hxl⟩ : ∃ xl, x.length = xl := ⟨_, rfl⟩
    have hxl2 : xl = bs.length - 48 * j := by rw [← hxl, hx.out, List.length_drop]
    have hbl2 := HBl.out
    have hFz := hF.out.size
    by_cases hlt : 0 < xl
    · obtain ⟨gx, ox, rfl, _⟩ := hB.out (by omega)
      obtain ⟨m, hm⟩ : ∃ m, min xl 48 = m := ⟨_, rfl⟩
      have hmI : min (xl : Int) 48 = (m : Int) := by omega
      have hm48 : m ≤ 48 := by omega
      have hmx : m ≤ xl := by omega
      have hm0 : 0 < m := by omega
      have hjs : j < secs bs.length := by unfold secs; omega
      have hj2 : j ≤ 30000000 := by unfold secs at hj; omega
      have hgx := hA.out _ rfl
      have hgxd : ¬ RDj gx := fun h => by
        rcases hRD.out gx h with h | h
        · have := H.out.d.lt h; have := hgx.1; simp only at this; omega
        · have := hgx.2; simp only at this; omega
      have hapj : ¬ RDj p := fun h => by
        rcases hRD.out p h with h | h
        · exact hap h
        · omega
      have htk : x.take m = (bs.drop (48 * j)).take 48 := by
        rw [← hx.out]
        rcases Nat.le_total xl 48 with h | h
        · rw [show m = xl from by omega, ← hxl, List.take_length, List.take_of_length_le (by omega)]
        · rw [show m = 48 from by omega]
      have hdr : x.drop m = bs.drop (48 * (j + 1)) := by
        rw [hx.out, List.drop_drop]
        rcases Nat.le_total xl 48 with h | h
        · rw [List.drop_eq_nil_of_le (by omega), List.drop_eq_nil_of_le (by omega)]
        · congr 1; omega
      have htl : (x.take m).length = m := by rw [List.length_take]; omega
      have HTk := Lib.hid htk
      have HDr := Lib.hid hdr
      have HXl := Lib.hid hxl
      have HTl2 := Lib.hid htl
      have HAj := Lib.hid (HAl.out j (by omega))
      have HPj : Hid (L.place (no + j) < (L.wrote S no bs j).now.length) := by rw [Hid, LS.wrote_length]; exact HPl.out _
      have HWj : Hid ((L.wrote S no bs j).waits.length < 4000000000) := by rw [Hid, LS.wrote_waits]; omega
      have HBj := Lib.hid hL.out.blk
      have hsec : Hid (∀ W, Fr Nob wr W → Calls Tryz.prog 73 #[.int .u64 ((no + j : Nat) : Int), .int .u64 L.life, .slice (some ⟨gx, ox, none⟩) m c'] W fun e w' => e = .returned (.slice (some ⟨W.heap.size, 0, none⟩) 64 64) ∧ Blk w' W.heap.size 5 (bts (sectB (no + j) L.life (x.take m))).toArray ∧ Fr Nob W w') := by
        intro W hW
        have := sector_any (no + j) L.life (some ⟨gx, ox, none⟩) c' (x.take m) W (bytesIn_take (hB.out.new hW) m) (by omega) (by omega) hlife
        rwa [htl] at this
      rw [hxl] at hxc ⊢
      clear htk hdr hxl htl hlt hxl2 hbl2
      have hnj : no + j < 18446744073709551615 := by omega
      have tx : decide (0 < xl) = true := by rw [decide_eq_true_iff]; omega
      go_wp2
      have hSj : Fr RDj wr wr.drew := (Fr.refl _ wr).drew
      refine Rg.begin (Fr RDj wr) [] (by kernel_rfl) ?_
      refine Rg.op 0 (some 64) hSj (v := ?v0w) (hy := fun wz hwz => ?h0w) (h := ?_)
      case h0w => (go_simp; try with_reducible rfl)
      refine Rg.op 1 (some 65) hSj (v := ?v1w) (hy := fun wz hwz => ?h1w) (h := ?_)
      case h1w => (have hb := (HBj.out.fr hwz hapj); have c0 := hb.cell 0; have hp := hb.lt; simp only [List.getElem?_toArray, List.getElem?_cons_zero, List.getElem?_cons_succ] at c0; clear hb; go_simp; try with_reducible rfl)
      refine Rg.op 2 (some 66) hSj (v := ?v2w) (hy := fun wz hwz => ?h2w) (h := ?_)
      case h2w => (go_simp; try with_reducible rfl)
      refine Rg.op 3 (some 67) hSj (v := ?v3w) (hy := fun wz hwz => ?h3w) (h := ?_)
      case h3w => (have hb := (HBj.out.fr hwz hapj); have c0 := hb.cell 0; have hp := hb.lt; simp only [List.getElem?_toArray, List.getElem?_cons_zero, List.getElem?_cons_succ] at c0; clear hb; go_simp; try with_reducible rfl)
      refine Rg.op 4 (some 68) hSj (v := ?v4w) (hy := fun wz hwz => ?h4w) (h := ?_)
      case h4w => (go_simp; try with_reducible rfl)
      refine Rg.op 5 (some 69) hSj (v := ?v5w) (hy := fun wz hwz => ?h5w) (h := ?_)
      case h5w => (go_simp; try with_reducible rfl)
      refine Rg.op 7 (some 71) hSj (v := ?v7w) (hy := fun wz hwz => ?h7w) (h := ?_)
      case h7w => (go_simp; try with_reducible rfl)
      refine Rg.op 8 (some 72) hSj (v := ?v8w) (hy := fun wz hwz => ?h8w) (h := ?_)
      case h8w => (go_simp; try with_reducible rfl)
      refine Rg.op 9 (some 73) hSj (v := ?v9w) (hy := fun wz hwz => ?h9w) (h := ?_)
      case h9w => (have hb := (HBj.out.fr hwz hapj); have c9 := hb.cell 9; have hp := hb.lt; simp only [List.getElem?_toArray, List.getElem?_cons_zero, List.getElem?_cons_succ] at c9; clear hb; go_simp; try with_reducible rfl)
      refine Rg.op 10 (some 74) hSj (v := ?v10w) (hy := fun wz hwz => ?h10w) (h := ?_)
      case h10w => (go_simp; try with_reducible rfl)
      refine Rg.op 11 (some 75) hSj (v := ?v11w) (hy := fun wz hwz => ?h11w) (h := ?_)
      case h11w => (have hb := (HBj.out.fr hwz hapj); have c9 := hb.cell 9; have hp := hb.lt; simp only [List.getElem?_toArray, List.getElem?_cons_zero, List.getElem?_cons_succ] at c9; clear hb; go_simp; try with_reducible rfl)
      refine Rg.op 12 (some 76) hSj (v := ?v12w) (hy := fun wz hwz => ?h12w) (h := ?_)
      case h12w => (go_simp; try with_reducible rfl)
      refine Rg.op 13 (some 77) hSj (v := ?v13w) (hy := fun wz hwz => ?h13w) (h := ?_)
      case h13w => (go_simp; try with_reducible rfl)
      refine Rg.op 14 (some 78) hSj (v := (.slice (some ⟨gx, ox, none⟩) m c')) (hy := fun wz hwz => ?h14w) (h := ?_)
      case h14w => (have u3 : (0 : Int) ≤ (m : Int) := (by omega); have u4 : (m : Int) ≤ (c' : Int) := (by omega); have u5 : ¬ c' = 0 := (by omega); go_simp; try with_reducible rfl)
      refine Rg.call 6 (some 70) (hrun := ?h6w) (hcall := place_any (no + j) (LogOk.new ⟨_, _, hL.out⟩ (Fr.refl Nob wr).drew) (by omega)) (h := ?_)
      case h6w => (go_simp)
      rintro e w11 ⟨rfl, hf11⟩
      have hf11' : Fr Nob wr w11 := (Fr.refl Nob wr).drew.trans hf11
      have hS11 : Fr RDj wr w11 := hf11'.mono (fun _ _ h => h.elim)
      clear hf11
      refine ⟨_, ?a6w, rfl, ?b6w, (fun _ => hS11), ?_⟩
      case b6w => (simp only [Act.put, List.setIfInBounds_toArray, List.set_cons_zero, List.set_cons_succ]; rfl)
      refine Rg.call 15 (some 79) (hrun := ?h15w) (hcall := hsec.out _ hf11') (h := ?_)
      case h15w => (go_simp)
      rintro e w12 ⟨rfl, hr12, hf12⟩
      obtain ⟨g12, hg12⟩ : ∃ g12, w11.heap.size = g12 := ⟨_, rfl⟩
      rw [hg12] at hr12 ⊢
      clear hg12
      have hf12' : Fr Nob wr w12 := hf11'.trans hf12
      have hS12 : Fr RDj wr w12 := hf12'.mono (fun _ _ h => h.elim)
      have HR12 : Hid (Row64 w12 g12 (sectB (no + j) L.life (x.take m))) := hr12
      clear hr12 hf12
      refine ⟨_, ?a15w, rfl, ?b15w, (fun _ => hS12), ?_⟩
      case b15w => (simp only [Act.put, List.setIfInBounds_toArray, List.set_cons_zero, List.set_cons_succ]; rfl)
      refine Rg.call 16 (some 80) (hrun := ?h16w) (hcall := Write_in (L.place (no + j)) g12 64 _ (hD.out.new hf12') HAj.out HPj.out (sectB_length _ _ _ (by rw [HTl2.out]; exact hm48)) HR12.out HWj.out) (h := ?_)
      case h16w => (go_simp)
      rintro e w13 ⟨rfl, hd13, hf13⟩
      have hS13 : Fr RDj wr w13 := hS12.trans hf13.fr
      have HD13 := Lib.hid hd13
      have HF13 := Lib.hid hf13
      clear hd13 hf13
      refine ⟨_, ?a16w, rfl, ?b16w, (fun _ => hS13), ?_⟩
      case b16w => (simp only [Act.put, List.setIfInBounds_toArray, List.set_cons_zero, List.set_cons_succ]; rfl)
      refine Rg.op 17 (some 8) hS13 (v := ?v17w) (hy := fun wz hwz => ?h17w) (h := ?_)
      case h17w => (go_simp; try with_reducible rfl)
      refine Rg.done _ (h := ?_)
      have hz13 := hS13.size
      have hz12 := hf12'.size
      have HB13 : Hid (BytesIn w13 (some (cutA gx ox m c')) (x.drop m)) := by
        refine bytesIn_drop (hB.out.fr hS13 (fun a ha => by injection ha with ha; subst ha; exact hgxd)) _ _ (by rw [HXl.out]; exact hxc) (by rw [HXl.out]; exact hmx)
      have HA13 : Hid (∀ a, some (cutA gx ox m c') = some a → w.heap.size ≤ a.block ∧ a.block < w7.heap.size) := by
        intro a ha
        injection ha with ha
        subst ha
        rw [cutA_block]
        exact hgx
      have HL13 := Lib.hid (hL.out.fr hS13 (fun b hb h => by
        rcases hRD.out b h with h | h
        · exact H.out.apart b hb h
        · have := HL.out.lt b hb; omega))
      have HF13' : Hid (Fr RD w7 w13) := by
        refine (hF.out.trans (hf12'.mono (fun _ _ h => h.elim))).step HF13.out.fr (fun i hi h => ?_)
        rcases hRD.out i h with h | h
        · exact h
        · omega
      have HW13 : Hid ((L.wrote S no bs j).wr (L.place (no + j)) (sectB (no + j) L.life (x.take m)) = L.wrote S no bs (j + 1)) := by
        rw [Hid, HTk.out]; rfl
      have HD13' : Hid (DiskOk (Ext RDj w12 w13) w13 d (L.wrote S no bs (j + 1))) := by rw [← HW13.out]; exact HD13.out
      have HRD13 : Hid (∀ b, Ext RDj w12 w13 b → RD b ∨ w7.heap.size ≤ b) := by
        rintro b (h | h)
        · exact hRD.out b h
        · exact .inr (by have := h.1; omega)
      have HDl : Hid ((x.drop m).length = xl - m) := by rw [Hid, List.length_drop, HXl.out]
      have hcut := cutA_eq gx ox m c'
      clear HD13 HW13 hsec
      go_wp2
      have hdl := HDl.out
      go_roundw
      case rel => exact ⟨j + 1, x.drop m, some (cutA gx ox m c'), c' - m, Ext RDj w12 w13, by omega, HDr, by rw [hdl], by rw [hdl]; omega, by go_num, HB13, HA13, HL13, HD13', HRD13, HF13'⟩
      case measure => show xl - m < xl; omega
    · have hx0 : xl = 0 := by omega
      have hjeq : j = secs bs.length := by unfold secs at hj ⊢; omega
      subst hx0
      have tx : decide ((0 : Int) < 0) = false := rfl
      rw [hxl]
      have hapj : ¬ RDj p := fun h => by
        rcases hRD.out p h with h | h
        · exact hap h
        · omega
      have hdj : (L.wrote S no bs j).dead = false := HAl.out j hj
      have HDd := Lib.hid hdj
      have HJe := Lib.hid hjeq
      have HWj : Hid ((L.wrote S no bs j).waits.length < 4000000000) := by rw [Hid, LS.wrote_waits]; unfold secs at hj; omega
      have hfl := Flush_any (hD.out.new (Fr.refl Nob wr).drew) HWj.out
      have hfl2 := Flush_any hD.out HWj.out
      unfold DS.fcode at hfl hfl2
      rw [hdj] at hfl hfl2
      have HFl := Lib.hid hfl
      have HFl2 := Lib.hid hfl2
      have hbk := hL.out.blk
      have c0 := hbk.cell 0
      have hpr := hbk.lt
      simp only [List.getElem?_toArray, List.getElem?_cons_zero, List.getElem?_cons_succ] at c0
      clear hfl hfl2 hdj hxl hxl2 hbl2 hbk
      go_wp2_with fail
      refine HFl2.out.mono ?_
      rintro e w20 ⟨rfl, hd20, hf20⟩
      have hz20 := hf20.size
      have hl20 := hL.out.fr hf20.fr (fun b hb h => by
        rcases hRD.out b h with h | h
        · exact H.out.apart b hb h
        · have := HL.out.lt b hb; omega)
      have hF20 : Fr RD w7 w20 := by
        refine hF.out.step hf20.fr (fun i hi h => ?_)
        rcases hRD.out i h with h | h
        · exact h
        · omega
      have hbk := hl20.blk
      have c4 := hbk.cell 4
      have c5 := hbk.cell 5
      have c7 := hbk.cell 7
      have c8 := hbk.cell 8
      have q5 := hbk.frozen 5
      have q8 := hbk.frozen 8
      have hp20 := hbk.lt
      simp only [List.getElem?_toArray, List.getElem?_cons_zero, List.getElem?_cons_succ] at c4 c5 c7 c8
      have HBk20 := Lib.hid hbk
      have HL20 := Lib.hid hl20
      have HD20 := Lib.hid hd20
      have HF20 := Lib.hid hF20
      clear hbk hl20 hd20 hF20 hf20 HFl HFl2 c0
      go_wp2
      obtain ⟨wE, hE⟩ : ∃ wE, (w20.setCell ⟨p, 8, none⟩ (.int .u64 (L.fin : Int))).setCell ⟨p, 5, none⟩ (.int .u64 ((L.next : Int) - 1)) = wE := ⟨_, rfl⟩
      have hfE : Fr (fun b => b = p) w20 wE := by rw [← hE]; exact ((Fr.refl (fun b => b = p) w20).setCell (p := ⟨p, 8, none⟩) (.inr rfl) _).setCell (p := ⟨p, 5, none⟩) (.inr rfl) _
      have hlE : LogAt R wE p d (.slice (some ⟨g, o, none⟩) n c) rv L.flushed' := by
        refine HL20.out.upd hfE _ _ _ _ _ _ _ _ HL20.out.b1 HL20.out.b2 (by have := HL20.out.b2; omega) HL20.out.b4 HL20.out.b4 HL20.out.b6 HL20.out.b7 ?_
        rw [← hE, show ((L.next - 1 : Nat) : Int) = (L.next : Int) - 1 from by omega]
        exact (HBk20.out.set_ 8 _).set_ 5 _
      have hdE := HD20.out.fr hfE (fun b hb e => hapj (by subst e; exact hb))
      go_ret
      rw [hE]
      refine ⟨rfl, ⟨_, _, hlE⟩, ⟨RDj, ?_, fun b hb => ?_⟩, ?_⟩
      · rw [HNo.out, HBs.out, ← HJe.out]; exact hdE
      · rcases hRD.out b hb with h | h
        · exact .inl h
        · exact .inr (by omega)
      · exact ((HF7.out.mono (fun _ _ h => h.elim)).trans (HF20.out.mono (fun _ _ h => .inr h))).trans (hfE.mono (fun b _ h => .inl (by subst h; exact HL.out.rp)))
end Go.Proofs.YtccmmnacejdeoaaGreatDoor
