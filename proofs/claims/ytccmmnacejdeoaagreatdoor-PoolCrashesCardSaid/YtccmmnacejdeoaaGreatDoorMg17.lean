/-
  PgParse, in one text.
-/
import Derived.Test.YtccmmnacejdeoaaGreatDoorMg16
import Derived.Test.YtccmmnacejdeoaaGreatDoorMg10
import Derived.Laws.ResultCell
/-
  What parse tells of a page's bytes.
-/
namespace Go.Proofs.YtccmmnacejdeoaaGreatDoor
set_option linter.unusedSimpArgs false
set_option linter.unusedVariables false
open Go.RowKit

/-- A row of bytes, as a value that has room behind it. -/
structure Bsl (w : World) (A : Option Addr) (cp : Nat) (l : List UInt8) : Prop where
  h : BytesIn w A l
  le : l.length ≤ cp
  lt : ∀ a, A = some a → a.block < w.heap.size
theorem Bsl.new {w w' : World} {A : Option Addr} {cp : Nat} {l : List UInt8} (h : Bsl w A cp l) (hf : Fr Nob w w') : Bsl w' A cp l := ⟨h.h.new hf, h.le, fun a ha => Nat.lt_of_lt_of_le (h.lt a ha) hf.size⟩

/-- What a page's bytes say. -/
def pgX (b : List UInt8) : PgV := ⟨getN ((b.drop 4).take 4), getN ((b.drop 8).take 8), b.drop 32⟩
def pgTurn (b : List UInt8) : Nat := getN ((b.drop 16).take 8)
def pgOk (b : List UInt8) : Bool := (b.getD 0 0 == 84) && (imgB (pgX b) (pgTurn b) == b)

theorem getN_four (l : List UInt8) (h : l.length = 4) : getN l < 4294967296 := by
  match l, h with
  | [a, b, c, d], _ =>
    have := UInt8.toNat_lt a
    have := UInt8.toNat_lt b
    have := UInt8.toNat_lt c
    have := UInt8.toNat_lt d
    simp only [getN, List.foldl]
    omega
theorem results_cell_row_tmp2 {P : Program} {fn : Func} {p u v : Tmp} {ty : TypeId} (h : fn.results = #[.cell p ty, .tmp u, .tmp v]) (tmps : Array Value) (w : World) (g : Nat) (t : TypeId) (cs : Array Value) (d : TypeDesc)
    (hp : tmps.getD p undef = .pointer (some ⟨g, 0, none⟩)) (hg : Blk w g t cs)
    (hu : P.underlying ty = some d) (hd : (match d with | .struct _ | .array _ _ => true | _ => false) = true) (hi : (P.info? ty).map (·.size) = some cs.size) :
    (results fn tmps).run P w = .ok (.tuple #[.agg cs, tmps.getD u undef, tmps.getD v undef]) w := by
  have hp' : tmps[p]?.getD undef = .pointer (some ⟨g, 0, none⟩) := by simpa using hp
  simp [results, h, hp', asAddr, run_loadVar_row w g t ty cs (0, 0) d hg hu hd hi, Sem.run_bind, Result.andThen]
theorem page_size : (Tryz.prog.info? 40).map (·.size) = some 3 := by kernel_rfl
theorem pgEqual_any (A B : Option Addr) (c d : Nat) (a b : List UInt8) (w : World) (ha : BytesIn w A a) (hb : BytesIn w B b) :
    Calls Tryz.prog 60 #[.slice A a.length c, .slice B b.length d] w fun e w' => e = .returned (.bool (a == b)) ∧ w = w' := by
  have q1 := conv_in ha c
  have q2 := conv_in hb d
  clear ha hb
  go_enter Tryz.func60, Tryz.ntmps60
  go_wp2
  go_ret
  exact ⟨rfl, rfl⟩
theorem pgClone_any {w : World} (a : Addr) (c : Nat) (s : List UInt8) (h : BytesIn w (some a) s) (hb : a.block < w.heap.size) (hn : s.length ≤ 140737488351232) :
    Calls Tryz.prog 31 #[.slice (some a) s.length c] w fun e w' => ∃ g cap, e = .returned (.slice (some ⟨g, 0, none⟩) s.length cap) ∧ w'.ownsRow w.heap.size 5 1 (.slice (some ⟨g, 0, none⟩) s.length cap) s.length (bts s) ∧ Fr Nob w w' := by
  refine (bytesClone_any a s.length c s w rfl ?_ hb hn).mono ?_
  · intro j u hu
    have h0 : 0 < s.length := by have := (List.getElem?_eq_some_iff.1 hu).1; rw [bts_length] at this; omega
    obtain ⟨g, o, e, hc⟩ := h h0
    injection e with e
    subst e
    exact bytesIn_cells h j u hu
  · rintro e w' ⟨v', rfl, ho, hne, hf⟩
    rcases ho.2 with ⟨e, _⟩ | ⟨g, cap, cur, e, _⟩
    · exact absurd e hne
    · subst e
      exact ⟨g, cap, rfl, ho, hf⟩

theorem bytesIn_part' {w : World} {g o : Nat} {l : List UInt8} (h : BytesIn w (some ⟨g, o, none⟩) l) (k n : Nat) (hn : k + n = l.length) : BytesIn w (some ⟨g, o + k, none⟩) (l.drop k) := by
  intro h0
  rw [List.length_drop] at h0
  obtain ⟨g', o', e, hc⟩ := h (by omega)
  injection e with e
  injection e with e1 e2
  subst e1 e2
  refine ⟨g, o + k, rfl, fun j x hx => ?_⟩
  rw [List.getElem?_drop] at hx
  rw [Nat.add_assoc]
  exact hc _ x hx
theorem len_by (w : World) (A : Option Addr) (n c : Nat) : (Builtin.len_ #[38] 3 #[Value.slice A n c]).run Tryz.prog w = .ok (.int .i64 n) w := by go_simp
set_option maxHeartbeats 3200000 in
set_option maxRecDepth 100000 in
theorem pgParse_any (A : Option Addr) (c : Nat) (b : List UInt8) (w : World) (h : Bsl w A c b) (hl : b.length = 512) :
    Calls Tryz.prog 35 #[.slice A 512 c] w fun e w' => ∃ g, e = .returned (.tuple #[.agg #[.int .i64 (pgX b).no, .int .u64 (pgX b).lsn, .slice (some ⟨g, 32, none⟩) 480 480], .int .u64 (pgTurn b), .bool (pgOk b)]) ∧ BytesIn w' (some ⟨g, 32, none⟩) (b.drop 32) ∧ w.heap.size ≤ g ∧ g < w'.heap.size ∧ Fr Nob w w' := by
  have HL := Lib.hid hl
  have hcp := h.le
  rw [hl] at hcp
  obtain ⟨kb, ko, rfl, hcs⟩ := h.h (by omega)
  have HB := Lib.hid h.h
  have hlt := h.lt _ rfl
  have e0 : pgOk b = ((b.getD 0 0 == 84) && (imgB (pgX b) (pgTurn b) == b)) := rfl
  have HOk := Lib.hid e0
  have HGet : Hid (∀ (W : World) o m cc, Fr Nob w W → o + m ≤ 512 → Calls Tryz.prog 59 #[.slice (some ⟨kb, ko + o, none⟩) m cc] W fun e w' => e = .returned (.int .u64 (getN ((b.drop o).take m))) ∧ W = w') := by
    intro W o m cc hW ho
    have hb := bytesIn_cut (h.h.new hW) o m c h.le (by omega)
    have hm : ((b.drop o).take m).length = m := by rw [List.length_take, List.length_drop]; omega
    have hcut : cutA kb ko o c = ⟨kb, ko + o, none⟩ ∨ m = 0 := by
      unfold cutA
      by_cases hm0 : m = 0
      · exact .inr hm0
      · left; rw [if_neg (by omega)]
    rcases hcut with hcut | hm0
    · rw [hcut] at hb
      have := pgGet_any (some ⟨kb, ko + o, none⟩) cc ((b.drop o).take m) W hb (by omega)
      rwa [hm] at this
    · subst hm0
      have := pgGet_any (some ⟨kb, ko + o, none⟩) cc [] W (fun h0 => absurd h0 (by simp)) (by simp)
      rw [List.take_zero]
      exact this
  have hb0 : ∃ x0 : UInt8, b.getD 0 0 = x0 ∧ b[0]? = some x0 := ⟨b[0], by rw [List.getD_eq_getElem?_getD, List.getElem?_eq_getElem (by omega)]; rfl, List.getElem?_eq_getElem (by omega)⟩
  obtain ⟨x0, hx0, hx1⟩ := hb0
  have hc0 := hcs 0 x0 hx1
  have HC0 := Lib.hid hc0
  rw [hx0] at HOk
  have hno := getN_four ((b.drop 4).take 4) (by rw [List.length_take, List.length_drop]; omega)
  have hlsn := getN_lt ((b.drop 8).take 8)
  have htu := getN_lt ((b.drop 16).take 8)
  have HX : Hid (pgX b = ⟨getN ((b.drop 4).take 4), getN ((b.drop 8).take 8), b.drop 32⟩) := rfl
  have HTu : Hid (pgTurn b = getN ((b.drop 16).take 8)) := rfl
  have hclone := Lib.hid (fun (W : World) (hW : Fr Nob w W) => by
    have := pgClone_any (w := W) ⟨kb, ko, none⟩ c b (h.h.new hW) (Nat.lt_of_lt_of_le hlt hW.size) (by omega)
    rw [hl] at this
    exact this)
  clear hcs hc0 hx0 hx1 e0 h hl
  go_enter Tryz.func35, Tryz.ntmps35
  go_wp2_with fail
  have hf0 : Fr Nob w (w.alloc (.cells #[.int .i64 0, .int .u64 0, .slice none 0 0] 40)) := (Fr.refl _ w).alloc _
  have hs0 : Blk (w.alloc (.cells #[.int .i64 0, .int .u64 0, .slice none 0 0] 40)) w.heap.size 40 #[.int .i64 0, .int .u64 0, .slice none 0 0] := Blk.new w _ _
  refine (hclone.out _ hf0).mono ?_
  rintro e w1 ⟨gc, cap, rfl, hown, hf1⟩
  have HF1 : Hid (Fr Nob w w1) := hf0.trans hf1
  have HS1 := Lib.hid (hs0.fr hf1 (fun h => h))
  have HD1 : Hid (BytesIn w1 (some ⟨gc, 0, none⟩) b) := bytesIn_own hown
  have hgc : w.heap.size + 1 ≤ gc ∧ gc < w1.heap.size := by
    have := hown.lt gc rfl
    rw [World.size_alloc] at this
    exact this
  have hcap : 512 ≤ cap := by
    rcases hown.2 with ⟨e, _⟩ | ⟨_, _, _, e, _, _, h5, _⟩
    · cases e
    · injection e with _ _ e; omega
  clear hown hf1 hs0 hf0 hclone
  obtain ⟨n0, hn0⟩ : ∃ n, getN ((b.drop 4).take 4) = n := ⟨_, rfl⟩
  obtain ⟨l0, hl0⟩ : ∃ n, getN ((b.drop 8).take 8) = n := ⟨_, rfl⟩
  obtain ⟨t0, ht0⟩ : ∃ n, getN ((b.drop 16).take 8) = n := ⟨_, rfl⟩
  rw [hn0] at hno HX
  rw [hl0] at hlsn HX
  rw [ht0] at htu HTu
  have HN0 := Lib.hid hn0
  have HL0 := Lib.hid hl0
  have HT0 := Lib.hid ht0
  clear hn0 hl0 ht0
  obtain ⟨s, hs⟩ : ∃ s, w.heap.size = s := ⟨_, rfl⟩
  rw [hs] at HS1 hgc ⊢
  have HSe := Lib.hid hs
  clear hs
  have q1 : ¬ c < 8 := by omega
  have HG4 : Hid (∀ W cc, Fr Nob w W → Calls Tryz.prog 59 #[.slice (some ⟨kb, ko + 4, none⟩) 4 cc] W fun e w' => e = .returned (.int .u64 n0) ∧ W = w') := fun W cc hW => by have := HGet.out W 4 4 cc hW (by omega); rwa [HN0.out] at this
  have HG8 : Hid (∀ W cc, Fr Nob w W → Calls Tryz.prog 59 #[.slice (some ⟨kb, ko + 8, none⟩) 8 cc] W fun e w' => e = .returned (.int .u64 l0) ∧ W = w') := fun W cc hW => by have := HGet.out W 8 8 cc hW (by omega); rwa [HL0.out] at this
  have HG16 : Hid (∀ W cc, Fr Nob w W → Calls Tryz.prog 59 #[.slice (some ⟨kb, ko + 16, none⟩) 8 cc] W fun e w' => e = .returned (.int .u64 t0) ∧ W = w') := fun W cc hW => by have := HGet.out W 16 8 cc hW (by omega); rwa [HT0.out] at this
  have q2 : ¬ c = 4 := by omega
  have q3 : ¬ c = 8 := by omega
  have q4 : ¬ c = 16 := by omega
  have q5 : ¬ cap = 32 := by omega
  have q6 : (512 : Int) ≤ (c : Int) := by omega
  have q7 : (512 : Int) ≤ (cap : Int) := by omega
  have qL := len_by
  clear HGet HN0 HL0 HT0
  go_wp2
  have hS : Fr Nob w1 w1.drew := (Fr.refl _ w1).drew
  refine Rg.begin (Fr Nob w1) [14] (by kernel_rfl) ?_
  refine Rg.op 0 (some 8) hS (v := ?v0r2) (hy := fun wz hwz => ?h0r2) (h := ?_)
  case h0r2 => (go_simp; try with_reducible rfl)
  refine Rg.op 1 (some 9) hS (v := ?v1r2) (hy := fun wz hwz => ?h1r2) (h := ?_)
  case h1r2 => (have k1 : (8 : Int) ≤ (c : Int) := (by omega); go_simp; try with_reducible rfl)
  refine Rg.op 4 (some 12) hS (v := ?v4r2) (hy := fun wz hwz => ?h4r2) (h := ?_)
  case h4r2 => (go_simp; try with_reducible rfl)
  refine Rg.op 5 (some 13) hS (v := ?v5r2) (hy := fun wz hwz => ?h5r2) (h := ?_)
  case h5r2 => (have k1 : (16 : Int) ≤ (c : Int) := (by omega); go_simp; try with_reducible rfl)
  refine Rg.op 7 (some 15) hS (v := ?v7r2) (hy := fun wz hwz => ?h7r2) (h := ?_)
  case h7r2 => (go_simp; try with_reducible rfl)
  refine Rg.op 8 (some 16) hS (v := ?v8r2) (hy := fun wz hwz => ?h8r2) (h := ?_)
  case h8r2 => (go_simp; try with_reducible rfl)
  refine Rg.op 9 (some 17) hS (v := ?v9r2) (hy := fun wz hwz => ?h9r2) (h := ?_)
  case h9r2 => (go_simp; try with_reducible rfl)
  refine Rg.op 10 (some 18) hS (v := ?v10r2) (hy := fun wz hwz => ?h10r2) (h := ?_)
  case h10r2 => (go_simp; try with_reducible rfl)
  refine Rg.op 11 (some 19) hS (v := ?v11r2) (hy := fun wz hwz => ?h11r2) (h := ?_)
  case h11r2 => (go_simp; try with_reducible rfl)
  refine Rg.op 12 (some 20) hS (v := (.slice (some ⟨gc, 32, none⟩) 480 480)) (hy := fun wz hwz => ?h12r2) (h := ?_)
  case h12r2 => (have k1 : (512 : Int) ≤ (cap : Int) := (by omega); go_simp; try with_reducible rfl)
  refine Rg.call 2 (some 10) (hrun := ?h2r2) (hcall := HG4.out _ (c - 4) (HF1.out.trans hS)) (h := ?_)
  case h2r2 => (go_simp)
  rintro e wz ⟨rfl, rfl⟩
  refine ⟨_, ?a2r2, rfl, ?b2r2, (fun _ => hS), ?_⟩
  case b2r2 => (simp only [Act.put, List.setIfInBounds_toArray, List.set_cons_zero, List.set_cons_succ]; rfl)
  refine Rg.op 3 (some 11) hS (v := (.int .i64 n0)) (hy := fun wz hwz => ?h3r2) (h := ?_)
  case h3r2 => (have hc := IntKind.wrap_i64 (n0 : Int); have hcw : IntKind.i64.wrap (n0 : Int) = (n0 : Int) := (by rw [hc]; omega); clear hc; go_simp; try with_reducible rfl)
  refine Rg.call 6 (some 14) (hrun := ?h6r2) (hcall := HG8.out _ (c - 8) (HF1.out.trans hS)) (h := ?_)
  case h6r2 => (go_simp)
  rintro e wz ⟨rfl, rfl⟩
  refine ⟨_, ?a6r2, rfl, ?b6r2, (fun _ => hS), ?_⟩
  case b6r2 => (simp only [Act.put, List.setIfInBounds_toArray, List.set_cons_zero, List.set_cons_succ]; rfl)
  refine Rg.op 13 (some 21) hS (v := (.agg #[.int .i64 n0, .int .u64 l0, .slice (some ⟨gc, 32, none⟩) 480 480])) (hy := fun wz hwz => ?h13r2) (h := ?_)
  case h13r2 => (go_simp; try with_reducible rfl)
  refine Rg.store 14 (w' := ((((w1.setCell ⟨s, 0, none⟩ (.int .i64 n0)).setCell ⟨s, 1, none⟩ (.int .u64 l0)).setCell ⟨s, 2, none⟩ (.slice (some ⟨gc, 32, none⟩) 480 480)).drew)) (hrun := ?h14r2) (hS := (fun h => absurd (by decide) h)) (h := ?_)
  case h14r2 => (have hb := HS1.out; have c0 := hb.cell 0; have c1 := hb.cell 1; have c2 := hb.cell 2; have f0 := hb.frozen 0; have f1 := hb.frozen 1; have f2 := hb.frozen 2; have hp := hb.lt; simp only [List.getElem?_toArray, List.getElem?_cons_zero, List.getElem?_cons_succ] at c0 c1 c2; clear hb; go_simp; try with_reducible rfl)
  refine Rg.done _ (h := ?_)
  have hb2 : Blk (((w1.setCell ⟨s, 0, none⟩ (.int .i64 n0)).setCell ⟨s, 1, none⟩ (.int .u64 l0)).setCell ⟨s, 2, none⟩ (.slice (some ⟨gc, 32, none⟩) 480 480)).drew s 40 #[.int .i64 n0, .int .u64 l0, .slice (some ⟨gc, 32, none⟩) 480 480] := (((HS1.out.set_ 0 _).set_ 1 _).set_ 2 _).drew
  have hf2 : Fr (fun x => x = s) w1 (((w1.setCell ⟨s, 0, none⟩ (.int .i64 n0)).setCell ⟨s, 1, none⟩ (.int .u64 l0)).setCell ⟨s, 2, none⟩ (.slice (some ⟨gc, 32, none⟩) 480 480)).drew := ((((Fr.refl (fun x => x = s) w1).setCell (p := ⟨s, 0, none⟩) (.inr rfl) _).setCell (p := ⟨s, 1, none⟩) (.inr rfl) _).setCell (p := ⟨s, 2, none⟩) (.inr rfl) _).drew
  obtain ⟨w2, hw2⟩ : ∃ W, (((w1.setCell ⟨s, 0, none⟩ (.int .i64 n0)).setCell ⟨s, 1, none⟩ (.int .u64 l0)).setCell ⟨s, 2, none⟩ (.slice (some ⟨gc, 32, none⟩) 480 480)).drew = W := ⟨_, rfl⟩
  rw [hw2] at hb2 hf2 ⊢
  have HF2 : Hid (Fr Nob w w2) := HF1.out.step hf2 (fun i hi h => by have := HSe.out; omega)
  have HS2 := Lib.hid hb2
  have HD2 : Hid (BytesIn w2 (some ⟨gc, 0, none⟩) b) := HD1.out.fr hf2 (fun a ha h => by injection ha with ha; subst ha; simp only at h; omega)
  have hgc2 : gc < w2.heap.size := by have := hf2.size; omega
  have HB2 : Hid (BytesIn w2 (some ⟨kb, ko, none⟩) b) := HB.out.new HF2.out
  have hd32 := bytesIn_part' HD2.out 32 480 (by rw [HL.out])
  have HD32 := Lib.hid hd32
  have hc0 : w2.cell? ⟨kb, ko, none⟩ = some (.int .u8 x0.toNat) := by
    have h0 := HC0.out
    rw [Nat.add_zero] at h0
    exact (HF2.out.cell (p := ⟨kb, ko, none⟩) hlt (fun h => h)).trans h0
  have hlt2 : kb < w2.heap.size := Nat.lt_of_lt_of_le hlt HF2.out.size
  have hks : ¬ kb = s := by have := HSe.out; omega
  clear hw2 hb2 hf2 hS HS1 HF1 HD1 HG4 HG8 hd32 HC0
  go_wp2_with fail
  refine (HG16.out w2 _ HF2.out).mono ?_
  rintro e wz ⟨rfl, rfl⟩
  have q8 := UInt8.toNat_lt x0
  have HIm : Hid (Calls Tryz.prog 61 #[.agg #[.int .i64 n0, .int .u64 l0, .slice (some ⟨gc, 32, none⟩) 480 480], .int .u64 t0] w2.drew fun e w' => e = .returned (.slice (some ⟨w2.drew.heap.size + 1, 0, none⟩) 512 512) ∧ Blk w' (w2.drew.heap.size + 1) 5 (bts (imgB (pgX b) t0)).toArray ∧ Fr Nob w2.drew w') := by
    rw [HX.out]
    exact image_any ⟨n0, l0, b.drop 32⟩ t0 (some ⟨gc, 32, none⟩) 480 w2.drew (by rw [List.length_drop, HL.out]) HD32.out (by show n0 < _; omega) hlsn htu
  have HIl := Lib.hid (imgB_length (pgX b) t0 (by rw [HX.out]; show (b.drop 32).length = 480; rw [List.length_drop, HL.out]))
  rw [HTu.out] at HOk
  clear HG16
  by_cases h84 : x0 = 84
  · subst h84
    obtain ⟨sb, hsb⟩ : ∃ sb, imgB (pgX b) t0 = sb := ⟨_, rfl⟩
    rw [hsb] at HIm HIl HOk
    clear hsb
    go_wp2
    have hS : Blk w2.drew s 40 #[.int .i64 n0, .int .u64 l0, .slice (some ⟨gc, 32, none⟩) 480 480] ∧ Fr (fun x => x = s) w2 w2.drew := ⟨HS2.out.drew, (Fr.refl _ w2).drew⟩
    refine Rg.begin (fun W => Blk W s 40 #[.int .i64 n0, .int .u64 l0, .slice (some ⟨gc, 32, none⟩) 480 480] ∧ Fr (fun x => x = s) w2 W) [] (by kernel_rfl) ?_
    refine Rg.op 0 (some 25) hS (v := (.agg #[.int .i64 n0, .int .u64 l0, .slice (some ⟨gc, 32, none⟩) 480 480])) (hy := fun wz hwz => ?h0y) (h := ?_)
    case h0y => (have hb := hwz.1; have cc0 := hb.cell 0; have cc1 := hb.cell 1; have cc2 := hb.cell 2; have hp := hb.lt; simp only [List.getElem?_toArray, List.getElem?_cons_zero, List.getElem?_cons_succ] at cc0 cc1 cc2; clear hb; go_simp; try with_reducible rfl)
    refine Rg.op 1 (some 26) hS (v := ?v1y) (hy := fun wz hwz => ?h1y) (h := ?_)
    case h1y => (go_simp; try with_reducible rfl)
    refine Rg.op 2 (some 27) hS (v := ?v2y) (hy := fun wz hwz => ?h2y) (h := ?_)
    case h2y => (go_simp; try with_reducible rfl)
    refine Rg.op 3 (some 28) hS (v := ?v3y) (hy := fun wz hwz => ?h3y) (h := ?_)
    case h3y => (go_simp; try with_reducible rfl)
    refine Rg.op 4 (some 29) hS (v := ?v4y) (hy := fun wz hwz => ?h4y) (h := ?_)
    case h4y => (have cc := (hwz.2.cell (p := ⟨kb, ko, none⟩) hlt2 (fun h => hks h)).trans hc0; have hp : kb < wz.heap.size := Nat.lt_of_lt_of_le hlt2 hwz.2.size; go_simp; try with_reducible rfl)
    refine Rg.op 5 (some 30) hS (v := (.bool true)) (hy := fun wz hwz => ?h5y) (h := ?_)
    case h5y => (go_simp; try with_reducible rfl)
    refine Rg.op 6 (some 31) hS (v := ?v6y) (hy := fun wz hwz => ?h6y) (h := ?_)
    case h6y => (go_simp; try with_reducible rfl)
    refine Rg.op 7 (some 32) hS (v := (.agg #[.int .i64 n0, .int .u64 l0, .slice (some ⟨gc, 32, none⟩) 480 480])) (hy := fun wz hwz => ?h7y) (h := ?_)
    case h7y => (have hb := hwz.1; have cc0 := hb.cell 0; have cc1 := hb.cell 1; have cc2 := hb.cell 2; have hp := hb.lt; simp only [List.getElem?_toArray, List.getElem?_cons_zero, List.getElem?_cons_succ] at cc0 cc1 cc2; clear hb; go_simp; try with_reducible rfl)
    refine Rg.op 8 (some 33) hS (v := ?v8y) (hy := fun wz hwz => ?h8y) (h := ?_)
    case h8y => (go_simp; try with_reducible rfl)
    refine Rg.op 10 (some 35) hS (v := ?v10y) (hy := fun wz hwz => ?h10y) (h := ?_)
    case h10y => (go_simp; try with_reducible rfl)
    refine Rg.call 9 (some 34) (hrun := ?h9y) (hcall := HIm.out) (h := ?_)
    case h9y => (go_simp)
    rintro e wi ⟨rfl, hbi, hfi⟩
    have hSi : Blk wi s 40 #[.int .i64 n0, .int .u64 l0, .slice (some ⟨gc, 32, none⟩) 480 480] ∧ Fr (fun x => x = s) w2 wi := ⟨hS.1.fr hfi (fun h => h), hS.2.trans (hfi.mono (fun _ _ h => h.elim))⟩
    have HBi := Lib.hid hbi
    have HBk := Lib.hid (HB2.out.new ((Fr.refl Nob w2).drew.trans hfi))
    clear hfi hbi
    refine ⟨_, ?a9y, rfl, ?b9y, (fun _ => hSi), ?_⟩
    case b9y => (simp only [Act.put, List.setIfInBounds_toArray, List.set_cons_zero, List.set_cons_succ]; rfl)
    refine Rg.call 11 (some 36) (hrun := ?h11y) (hcall := (by have := pgEqual_any (some ⟨w2.drew.heap.size + 1, 0, none⟩) (some ⟨kb, ko, none⟩) 512 c sb b wi (bytesIn_of HBi.out) HBk.out; rw [HIl.out, HL.out] at this; exact this)) (h := ?_)
    case h11y => (go_simp)
    rintro e wy ⟨rfl, rfl⟩
    refine ⟨_, ?a11y, rfl, ?b11y, (fun _ => hSi), ?_⟩
    case b11y => (simp only [Act.put, List.setIfInBounds_toArray, List.set_cons_zero, List.set_cons_succ]; rfl)
    refine Rg.op 12 (some 37) hSi (v := (.bool (sb == b))) (hy := fun wz hwz => ?h12y) (h := ?_)
    case h12y => (go_simp; try with_reducible rfl)
    have HBx := Lib.hid hSi.1
    have hbE : Blk (((wi.setCell ⟨s, 0, none⟩ (.int .i64 n0)).setCell ⟨s, 1, none⟩ (.int .u64 l0)).setCell ⟨s, 2, none⟩ (.slice (some ⟨gc, 32, none⟩) 480 480)) s 40 #[.int .i64 n0, .int .u64 l0, .slice (some ⟨gc, 32, none⟩) 480 480] := ((HBx.out.set_ 0 _).set_ 1 _).set_ 2 _
    have hfE : Fr (fun x => x = s) w2 (((wi.setCell ⟨s, 0, none⟩ (.int .i64 n0)).setCell ⟨s, 1, none⟩ (.int .u64 l0)).setCell ⟨s, 2, none⟩ (.slice (some ⟨gc, 32, none⟩) 480 480)) := ((((hSi.2) : Fr (fun x => x = s) w2 wi).setCell (p := ⟨s, 0, none⟩) (.inr rfl) _).setCell (p := ⟨s, 1, none⟩) (.inr rfl) _).setCell (p := ⟨s, 2, none⟩) (.inr rfl) _
    refine Rg.store 13 (w' := ((((wi.setCell ⟨s, 0, none⟩ (.int .i64 n0)).setCell ⟨s, 1, none⟩ (.int .u64 l0)).setCell ⟨s, 2, none⟩ (.slice (some ⟨gc, 32, none⟩) 480 480)))) (hrun := ?h13y) (hS := (fun _ => ⟨hbE, hfE⟩)) (h := ?_)
    case h13y => (have hb := HBx.out; have c0 := hb.cell 0; have c1 := hb.cell 1; have c2 := hb.cell 2; have f0 := hb.frozen 0; have f1 := hb.frozen 1; have f2 := hb.frozen 2; have hp := hb.lt; simp only [List.getElem?_toArray, List.getElem?_cons_zero, List.getElem?_cons_succ] at c0 c1 c2; clear hb; go_simp; try with_reducible rfl)
    refine Rg.op 14 (some 3) ⟨hbE, hfE⟩ (v := ?v14y) (hy := fun wz hwz => ?h14y) (h := ?_)
    case h14y => (go_simp; try with_reducible rfl)
    refine Rg.op 15 (some 4) ⟨hbE, hfE⟩ (v := ?v15y) (hy := fun wz hwz => ?h15y) (h := ?_)
    case h15y => (go_simp; try with_reducible rfl)
    refine Rg.done _ (h := ?_)
    go_wp2
    refine bodyPost_ret (results_cell_row_tmp2 rfl _ _ _ _ _ _ rfl hbE Tryz.underlying40 rfl page_size) rfl ⟨gc, ?_, HD32.out.fr hfE (fun a ha h => by injection ha with ha; subst ha; simp only at h; omega), by have := HSe.out; omega, Nat.lt_of_lt_of_le hgc2 hfE.size, HF2.out.step hfE (fun i hi h => by have := HSe.out; omega)⟩
    rw [HX.out, HTu.out, HOk.out]; rfl
  · have hx : ((x0.toNat : Int) == 84) = false := by rw [beq_eq_false_iff_ne]; intro h; exact h84 (UInt8.toNat_inj.1 (by show x0.toNat = 84; omega))
    have hok : pgOk b = false := by rw [HOk.out, show (x0 == 84) = false from by rw [beq_eq_false_iff_ne]; exact h84]; rfl
    have HOk2 := Lib.hid hok
    clear hok
    go_wp2
    have hS : Blk w2.drew s 40 #[.int .i64 n0, .int .u64 l0, .slice (some ⟨gc, 32, none⟩) 480 480] ∧ Fr (fun x => x = s) w2 w2.drew := ⟨HS2.out.drew, (Fr.refl _ w2).drew⟩
    refine Rg.begin (fun W => Blk W s 40 #[.int .i64 n0, .int .u64 l0, .slice (some ⟨gc, 32, none⟩) 480 480] ∧ Fr (fun x => x = s) w2 W) [] (by kernel_rfl) ?_
    refine Rg.op 0 (some 25) hS (v := (.agg #[.int .i64 n0, .int .u64 l0, .slice (some ⟨gc, 32, none⟩) 480 480])) (hy := fun wz hwz => ?h0n) (h := ?_)
    case h0n => (have hb := hwz.1; have cc0 := hb.cell 0; have cc1 := hb.cell 1; have cc2 := hb.cell 2; have hp := hb.lt; simp only [List.getElem?_toArray, List.getElem?_cons_zero, List.getElem?_cons_succ] at cc0 cc1 cc2; clear hb; go_simp; try with_reducible rfl)
    refine Rg.op 1 (some 26) hS (v := ?v1n) (hy := fun wz hwz => ?h1n) (h := ?_)
    case h1n => (go_simp; try with_reducible rfl)
    refine Rg.op 2 (some 27) hS (v := ?v2n) (hy := fun wz hwz => ?h2n) (h := ?_)
    case h2n => (go_simp; try with_reducible rfl)
    refine Rg.op 3 (some 28) hS (v := ?v3n) (hy := fun wz hwz => ?h3n) (h := ?_)
    case h3n => (go_simp; try with_reducible rfl)
    refine Rg.op 4 (some 29) hS (v := ?v4n) (hy := fun wz hwz => ?h4n) (h := ?_)
    case h4n => (have cc := (hwz.2.cell (p := ⟨kb, ko, none⟩) hlt2 (fun h => hks h)).trans hc0; have hp : kb < wz.heap.size := Nat.lt_of_lt_of_le hlt2 hwz.2.size; go_simp; try with_reducible rfl)
    refine Rg.op 5 (some 30) hS (v := (.bool false)) (hy := fun wz hwz => ?h5n) (h := ?_)
    case h5n => (go_simp; try with_reducible rfl)
    refine Rg.op 6 (some 31) hS (v := ?v6n) (hy := fun wz hwz => ?h6n) (h := ?_)
    case h6n => (go_simp; try with_reducible rfl)
    refine Rg.pass 7 (some 32) hS (h := ?_)
    refine Rg.pass 8 (some 33) hS (h := ?_)
    refine Rg.pass 9 (some 34) hS (h := ?_)
    refine Rg.pass 10 (some 35) hS (h := ?_)
    refine Rg.pass 11 (some 36) hS (h := ?_)
    refine Rg.op 12 (some 37) hS (v := (.bool false)) (hy := fun wz hwz => ?h12n) (h := ?_)
    case h12n => (go_simp; try with_reducible rfl)
    have HBx := Lib.hid HS2.out
    have hbE : Blk (((w2.setCell ⟨s, 0, none⟩ (.int .i64 n0)).setCell ⟨s, 1, none⟩ (.int .u64 l0)).setCell ⟨s, 2, none⟩ (.slice (some ⟨gc, 32, none⟩) 480 480)).drew s 40 #[.int .i64 n0, .int .u64 l0, .slice (some ⟨gc, 32, none⟩) 480 480] := ((HBx.out.set_ 0 _).set_ 1 _).set_ 2 _
    have hfE : Fr (fun x => x = s) w2 (((w2.setCell ⟨s, 0, none⟩ (.int .i64 n0)).setCell ⟨s, 1, none⟩ (.int .u64 l0)).setCell ⟨s, 2, none⟩ (.slice (some ⟨gc, 32, none⟩) 480 480)).drew := ((((Fr.refl (fun x => x = s) w2) : Fr (fun x => x = s) w2 w2).setCell (p := ⟨s, 0, none⟩) (.inr rfl) _).setCell (p := ⟨s, 1, none⟩) (.inr rfl) _).setCell (p := ⟨s, 2, none⟩) (.inr rfl) _ |>.drew
    refine Rg.store 13 (w' := ((((w2.setCell ⟨s, 0, none⟩ (.int .i64 n0)).setCell ⟨s, 1, none⟩ (.int .u64 l0)).setCell ⟨s, 2, none⟩ (.slice (some ⟨gc, 32, none⟩) 480 480)).drew)) (hrun := ?h13n) (hS := (fun _ => ⟨hbE, hfE⟩)) (h := ?_)
    case h13n => (have hb := HBx.out; have c0 := hb.cell 0; have c1 := hb.cell 1; have c2 := hb.cell 2; have f0 := hb.frozen 0; have f1 := hb.frozen 1; have f2 := hb.frozen 2; have hp := hb.lt; simp only [List.getElem?_toArray, List.getElem?_cons_zero, List.getElem?_cons_succ] at c0 c1 c2; clear hb; go_simp; try with_reducible rfl)
    refine Rg.op 14 (some 3) ⟨hbE, hfE⟩ (v := ?v14n) (hy := fun wz hwz => ?h14n) (h := ?_)
    case h14n => (go_simp; try with_reducible rfl)
    refine Rg.op 15 (some 4) ⟨hbE, hfE⟩ (v := ?v15n) (hy := fun wz hwz => ?h15n) (h := ?_)
    case h15n => (go_simp; try with_reducible rfl)
    refine Rg.done _ (h := ?_)
    go_wp2
    refine bodyPost_ret (results_cell_row_tmp2 rfl _ _ _ _ _ _ rfl hbE Tryz.underlying40 rfl page_size) rfl ⟨gc, ?_, HD32.out.fr hfE (fun a ha h => by injection ha with ha; subst ha; simp only at h; omega), by have := HSe.out; omega, Nat.lt_of_lt_of_le hgc2 hfE.size, HF2.out.step hfE (fun i hi h => by have := HSe.out; omega)⟩
    rw [HX.out, HTu.out, HOk2.out]; rfl
end Go.Proofs.YtccmmnacejdeoaaGreatDoor
