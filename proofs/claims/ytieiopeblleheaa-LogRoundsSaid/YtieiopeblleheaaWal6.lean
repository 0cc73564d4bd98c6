/-
  bytes.Equal, and what parse tells of a sector.
-/
import Derived.Test.YtieiopeblleheaaWal5
import Derived.Laws.BytesArg
import Derived.Shelf.Bytes.SlSmallAll
import Derived.Deep.QuietTactic
import Derived.BigQuiet
namespace Go.Proofs.Ytieiopeblleheaa
set_option linter.unusedSimpArgs false
set_option linter.unusedVariables false
open Go.RowKit

theorem conv_in {w : World} {A : Option Addr} {l : List UInt8} (h : BytesIn w A l) (c : Nat) : (convert 29 9 (.slice A l.length c)).run Try.prog w = .ok (.string ⟨l.toArray⟩) w := by
  rcases Nat.eq_zero_or_pos l.length with h0 | h0
  · obtain rfl : l = [] := List.eq_nil_of_length_eq_zero h0
    exact (run_convert_bytes_zero w 29 5 Try.underlying29 Try.underlying5 A c) 9 Try.underlying9
  · obtain ⟨g, o, rfl, hc⟩ := h h0
    refine run_convert_bytes_back (P := Try.prog) w 29 9 5 ⟨g, o, none⟩ c l Try.underlying29 Try.underlying5 Try.underlying9 (fun j hj => ?_)
    rw [show (⟨g, o, none⟩ : Addr).add j = ⟨g, o + j, none⟩ from by simp [Addr.add]]
    exact hc j _ (List.getElem?_eq_getElem hj)

theorem Equal_any (A B : Option Addr) (c d : Nat) (a b : List UInt8) (w : World) (ha : BytesIn w A a) (hb : BytesIn w B b) :
    Calls Try.prog 63 #[.slice A a.length c, .slice B b.length d] w fun e w' => e = .returned (.bool (a == b)) ∧ w = w' := by
  have q1 := conv_in ha c
  have q2 := conv_in hb d
  clear ha hb
  go_enter Try.func63, Try.ntmps63
  go_wp2
  go_ret
  exact ⟨rfl, rfl⟩

theorem quiet_eq {P : Program} {f : FuncId} {args : Array Value} {w : World} {n : Nat} {v : Value} (h : Calls P f args (w.drewN n) fun e w' => e = .returned v ∧ w.drewN n = w') :
    Calls P f args (w.drewN n) fun e w'' => e = .returned v ∧ ∃ m, w'' = w.drewN m := h.mono fun _ _ ⟨he, hm⟩ => ⟨he, n, hm.symm⟩

theorem results_tmp4 {fn : Func} {t u v x : Tmp} (h : fn.results = #[.tmp t, .tmp u, .tmp v, .tmp x]) (tmps : Array Value) (P : Program) (w : World) :
    (results fn tmps).run P w = .ok (.tuple #[tmps.getD t undef, tmps.getD u undef, tmps.getD v undef, tmps.getD x undef]) w := by
  simp [results, h]

/-- What a sector's bytes say. -/
def pNo (b : List UInt8) : Nat := getN ((b.drop 0).take 5)
def pLife (b : List UInt8) : Nat := getN ((b.drop 5).take 6)
def pN (b : List UInt8) : Nat := (b.getD 11 0).toNat
def pOwn (b : List UInt8) : List UInt8 := (b.drop 16).take (pN b)
def pOk (b : List UInt8) : Bool := decide (0 < pN b) && (sectB (pNo b) (pLife b) (pOwn b) == b)

/-- What parse hands back of a sector in block g. -/
def parsed (g : Nat) (b : List UInt8) : Value := if 48 < pN b then .tuple #[.int .u64 0, .int .u64 0, .slice none 0 0, .bool false] else .tuple #[.int .u64 (pNo b), .int .u64 (pLife b), .slice (some ⟨g, 16, none⟩) (pN b) 48, .bool (pOk b)]

theorem get_part {w : World} {g : Nat} {t : List UInt8} (h : Blk w g 5 (bts t).toArray) (o n c : Nat) (ho : o + n ≤ t.length) (hn : n ≤ 64) :
    Calls Try.prog 62 #[.slice (some ⟨g, o, none⟩) n c] w fun e w' => e = .returned (.int .u64 (getN ((t.drop o).take n))) ∧ w = w' := by
  have hl : ((t.drop o).take n).length = n := by rw [List.length_take, List.length_drop]; omega
  have := get_any (some ⟨g, o, none⟩) c ((t.drop o).take n) w (bytesIn_part h o n) (by omega)
  rwa [hl] at this

set_option maxHeartbeats 800000 in
set_option maxRecDepth 100000 in
theorem parse_any (g : Nat) (b : List UInt8) (w : World) (hb : Blk w g 5 (bts b).toArray) (hl : b.length = 64) :
    Calls Try.prog 65 #[.slice (some ⟨g, 0, none⟩) 64 64] w fun e w' =>
      e = .returned (parsed g b) ∧ Fr Nob w w' := by
  have H := Lib.hid hb
  have hg : g < w.heap.size := hb.lt
  have c11 : w.cell? ⟨g, 11, none⟩ = some (.int .u8 (pN b)) := by
    rw [hb.cell, List.getElem?_toArray, bts_get, List.getElem?_eq_getElem (by omega)]
    simp [pN, List.getD, List.getElem?_eq_getElem (show 11 < b.length by omega)]
  have hG : ∀ n o m c, o + m ≤ 64 → m ≤ 64 → Calls Try.prog 62 #[.slice (some ⟨g, o, none⟩) m c] (w.drewN n) fun e w' => e = .returned (.int .u64 (getN ((b.drop o).take m))) ∧ w.drewN n = w' :=
    fun n o m c h1 h2 => get_part (hb.drewN n) o m c (by omega) h2
  have HG := Lib.hid hG
  have hn : pN b < 256 := UInt8.toNat_lt _
  have HL := Lib.hid hl
  clear hb hG hl
  go_enter Try.func65, Try.ntmps65
  go_wp2
  go_quiet ((go_at_call 62; exact quiet_eq (HG.out _ _ _ _ (by omega) (by omega))))
  have e0 : getN ((b.drop 0).take 5) = pNo b := rfl
  have e1 : getN ((b.drop 5).take 6) = pLife b := rfl
  rw [e0, e1]
  have HF : Hid (Fr Nob w (w.drewN nq)) := (Fr.refl _ w).drewN nq
  have HB : Hid (Blk (w.drewN nq) g 5 (bts b).toArray) := H.out.drewN nq
  have c11' : (w.drewN nq).cell? ⟨g, 11, none⟩ = some (.int .u8 (pN b)) := c11
  have hg' : g < (w.drewN nq).heap.size := hg
  clear e0 e1 c11 H HG hg
  generalize w.drewN nq = w1 at *
  by_cases h48 : 48 < pN b
  · go_wp2
    (try simp only [Exit.inBlock, Exit.then])
    refine bodyPost_ret (results_tmp4 rfl _ _ _) rfl ?_
    have : parsed g b = _ := if_pos h48
    rw [this]
    exact ⟨rfl, HF.out⟩
  · by_cases h0 : 0 < pN b
    · have hno := getN_lt ((b.drop 0).take 5)
      have hli := getN_lt ((b.drop 5).take 6)
      have hol : (pOwn b).length = pN b := by unfold pOwn; rw [List.length_take, List.length_drop, HL.out]; omega
      have HI : Hid (BytesIn w1 (some ⟨g, 16, none⟩) (pOwn b)) := bytesIn_part HB.out 16 (pN b)
      have hsec := sector_any (pNo b) (pLife b) (some ⟨g, 16, none⟩) 48 (pOwn b) w1 HI.out (by omega) hno hli
      rw [hol] at hsec
      have HS := Lib.hid hsec
      have HLs := Lib.hid (sectB_length (pNo b) (pLife b) (pOwn b) (by omega))
      have HOk : Hid (pOk b = (sectB (pNo b) (pLife b) (pOwn b) == b)) := by
        show _ = _
        unfold pOk; rw [decide_eq_true h0, Bool.true_and]
      have hrw : parsed g b = .tuple #[.int .u64 (pNo b), .int .u64 (pLife b), .slice (some ⟨g, 16, none⟩) (pN b) 48, .bool (pOk b)] := if_neg h48
      have HRw := Lib.hid hrw
      clear hno hli hol hsec hrw
      generalize sectB (pNo b) (pLife b) (pOwn b) = sb at *
      go_wp2_with fail
      refine HS.out.mono ?_
      rintro e w2 ⟨rfl, hb2, hf2⟩
      have heq := Equal_any (some ⟨w1.heap.size, 0, none⟩) (some ⟨g, 0, none⟩) 64 64 sb b w2 (bytesIn_of hb2) (bytesIn_of (HB.out.fr hf2 (fun h => h)))
      rw [HLs.out, HL.out] at heq
      have HE := Lib.hid heq
      have HF2 := Lib.hid (HF.out.trans hf2)
      clear heq hb2 hf2
      go_wp2_with fail
      refine HE.out.mono ?_
      rintro e w3 ⟨rfl, rfl⟩
      go_wp2
      (try simp only [Exit.inBlock, Exit.then])
      refine bodyPost_ret (results_tmp4 rfl _ _ _) rfl ?_
      rw [HRw.out, HOk.out]
      exact ⟨rfl, HF2.out⟩
    · go_wp2
      (try simp only [Exit.inBlock, Exit.then])
      refine bodyPost_ret (results_tmp4 rfl _ _ _) rfl ?_
      have h1 : pOk b = false := by unfold pOk; rw [decide_eq_false h0]; rfl
      have : parsed g b = _ := if_neg h48
      rw [this, h1, show 16 + pN b - 16 = pN b from by omega]
      exact ⟨rfl, HF.out⟩
end Go.Proofs.Ytieiopeblleheaa
