/-
  What Read, Nought and Sector make.
-/
import Derived.Test.YtieiopeblleheaaDisk2
import Derived.Deep.OwnRows
namespace Go.Proofs.Ytieiopeblleheaa
set_option linter.unusedSimpArgs false
set_option linter.unusedVariables false
open Go.RowKit

def zeros64 : Array Value := madeCells #[.int .u8 0] 64
theorem zeros64_eq : zeros64 = (bts nought).toArray := by
  rw [zeros64, madeCells_toArray]; simp [bts, nought]

theorem make64 (w : World) : (Instr.makeSlice 29 (.int .i64 64) (.int .i64 64)).run Try.prog w = .ok (.slice (some ⟨w.heap.size, 0, none⟩) 64 64) (w.alloc (.cells zeros64 5)) :=
  run_make_row' (P := Try.prog) 29 5 (.int .u8 0) 1 Try.underlying29 info_u8 rfl .i64 .i64 64 (by omega) (by omega) w

section
variable {R : Nat → Prop} {w : World} {p : Nat} {S : DS}

theorem Read_bad (i : Int) (h : DiskOk R w p S) (hb : S.wrong i ≠ 0) :
    Calls Try.prog 16 #[.pointer (some ⟨p, 0, none⟩), .int .i64 i] w fun e w' => e = .returned (.tuple #[.slice none 0 0, .int .i64 (S.wrong i)]) ∧ w = w' := by
  have hb' : (S.wrong i != 0) = true := by simpa using hb
  have hw := (wrong_any (w := w) i h)
  have HW := Lib.hid hw
  clear hw h hb
  generalize S.wrong i = e0 at *
  go_enter Try.func16, Try.ntmps16
  go_wp2_with (go_at_call 46; refine HW.out.mono ?_; rintro e w' ⟨rfl, rfl⟩)
  go_ret2
  exact ⟨rfl, rfl⟩

set_option maxHeartbeats 400000 in
set_option maxRecDepth 100000 in
theorem Read_good (i : Nat) (s : List UInt8) (h : DiskOk R w p S) (hd : S.dead = false) (hs : S.now[i]? = some s) :
    Calls Try.prog 16 #[.pointer (some ⟨p, 0, none⟩), .int .i64 i] w fun e w' => e = .returned (.tuple #[.slice (some ⟨w.heap.size, 0, none⟩) 64 64, .int .i64 0]) ∧ Blk w' w.heap.size 5 (bts s).toArray ∧ Fr Nob w w' := by
  have hw := wrong_any (w := w) i h
  have hi : i < S.now.length := (List.getElem?_eq_some_iff.1 hs).1
  rw [show S.wrong i = 0 from by unfold DS.wrong; rw [if_neg (by omega), hd]; rfl] at hw
  have HW := Lib.hid hw
  obtain ⟨nb, lb, nv, lv, wv, ws, h⟩ := h
  obtain ⟨h0, h1, h2, h3, h4, h5⟩ := h.cells
  have hi' : i < nv.length := Nat.lt_of_lt_of_le hi h.now.1
  have hsec := h.now.2 i _ s (List.getElem?_eq_getElem hi') hs
  have hpl : p < w.heap.size := h.blk.lt
  have hnl : nb < w.heap.size := h.bnow.lt
  have cn : w.cell? ⟨nb, i, none⟩ = some (nv[i]'hi') := by rw [h.bnow.cell i]; simp
  have H := Lib.hid h
  clear hw h hs hd
  generalize nv[i] = v at *
  have hmk := make64
  have hlen := hsec.1
  have Hlen := Lib.hid hlen
  clear hlen
  have hcur : Hid (((w.alloc (.cells zeros64 5)).heap[w.heap.size]? = some (.cells (bts nought).toArray 5 (0, 0)))) := by
    show _ = _
    rw [← zeros64_eq]; exact heap_alloc_new w _
  have hinf : (Try.prog.info? 5).map (·.size) = some 1 := by kernel_rfl
  have HF := Lib.hid ((Below.refl w.heap.size w).alloc (Nat.le_refl _) (.cells zeros64 5))
  rcases hsec.2 with ⟨rfl, rfl⟩ | ⟨hown, hR⟩
  · clear hsec
    go_enter Try.func16, Try.ntmps16
    go_wp2_with (first
      | (go_at_call 46; refine HW.out.mono ?_; rintro e w' ⟨rfl, rfl⟩)
      | (with_reducible refine wpList_copy_nothing rfl (.tmp 15) (.tmp 22) 29 29 rfl 5 Try.underlying29 hinf _ _ _ _ _ _ rfl rfl rfl ?_))
    go_ret2
    exact ⟨rfl, hcur.out, Fr.of_below HF.out⟩
  · obtain ⟨g, cap, rfl, _, hglt⟩ := hown.form (by omega)
    have hsrc : Hid (∀ j u, (bts s)[j]? = some u → (w.alloc (.cells zeros64 5)).cell? ((⟨g, 0, none⟩ : Addr).add j) = some u) := by
      intro j u hu
      rw [World.cell?_alloc_lt _ _ _ (by unfold Addr.add; split <;> exact hglt)]
      exact hown.cells (g := g) rfl j u hu
    clear hsec hown
    have hn : Hid ((bts s).length = Nat.min 64 64) := by show _ = _; rw [bts_length, Hlen.out]; rfl
    have hfit : Hid (0 + (bts s).length ≤ (bts nought).length) := by show _ ≤ _; rw [bts_length, bts_length, Hlen.out]; simp [nought]
    go_enter Try.func16, Try.ntmps16
    go_wp2_with (first
      | (go_at_call 46; refine HW.out.mono ?_; rintro e w' ⟨rfl, rfl⟩)
      | (with_reducible refine wpList_copy_splice rfl (.tmp 15) (.tmp 22) 29 29 rfl 5 Try.underlying29 hinf (some ⟨w.heap.size, 0, none⟩) (some ⟨g, 0, none⟩) 64 64 64 cap rfl rfl w.heap.size 0 (bts nought) 5 hcur.out (bts s) hn.out (fun _ => ⟨rfl, _, rfl, hsrc.out⟩) hfit.out (bts_one s) w.heap.size w HF.out (Nat.le_refl _) ?_
         intro w3 hg3 hb3
         have HB3 := Lib.hid hb3
         clear hb3))
    go_ret2
    refine ⟨rfl, ?_, Fr.of_below HB3.out⟩
    have := hg3.out
    rwa [show splice (bts nought) 0 (bts s) = bts s from by simp [splice, bts_length, Hlen.out, nought]] at this

end

/-- 'string(b)' where b's row is known. -/
theorem conv_own {w : World} {base n cap : Nat} {a : Addr} {s : List UInt8} (h : w.ownsRow base 5 1 (.slice (some a) n cap) n (bts s)) :
    (convert 29 9 (.slice (some a) n cap)).run Try.prog w = .ok (.string ⟨s.toArray⟩) w := by
  have hl : s.length = n := by have := h.1; rw [bts_length] at this; omega
  obtain ⟨g, e⟩ : ∃ g, a = ⟨g, 0, none⟩ := by
    rcases h.2 with ⟨e, _⟩ | ⟨g, cap', cur, e, _⟩
    · cases e
    · injection e with e; injection e with e; exact ⟨g, e⟩
  subst e
  have hc := h.cells (g := g) rfl
  subst hl
  refine run_convert_bytes_back (P := Try.prog) w 29 9 5 ⟨g, 0, none⟩ cap s Try.underlying29 Try.underlying5 Try.underlying9 (fun j hj => hc j _ ?_)
  rw [bts_get]; simp [hj]

theorem own_of_blk {w : World} {g : Nat} {t : TypeId} {xs : List Value} (h : Blk w g t xs.toArray) (hm : xs.length ≤ maxLen) : w.ownsRow 0 t 1 (.slice (some ⟨g, 0, none⟩) xs.length xs.length) xs.length xs :=
  ⟨by omega, .inr ⟨g, _, _, rfl, Nat.zero_le _, h, Nat.le_refl _, hm, by simp, by simp⟩⟩

theorem bts_own {w : World} {g : Nat} {s : List UInt8} (h : Blk w g 5 (bts s).toArray) (hs : s.length = 64) : w.ownsRow 0 5 1 (.slice (some ⟨g, 0, none⟩) 64 64) 64 (bts s) := by
  have := own_of_blk h (by rw [bts_length, hs]; decide)
  rwa [bts_length, hs] at this

set_option maxRecDepth 100000 in
theorem Nought_any (w : World) : Calls Try.prog 17 #[] w fun e w' => e = .returned (.string ⟨nought.toArray⟩) ∧ Fr Nob w w' := by
  have hmk := make64
  have hcv : (convert 29 9 (.slice (some ⟨w.heap.size, 0, none⟩) 64 64)).run Try.prog (w.alloc (.cells zeros64 5)) = .ok (.string ⟨nought.toArray⟩) (w.alloc (.cells zeros64 5)) := by
    refine conv_own (base := 0) (bts_own ?_ (by simp [nought]))
    rw [← zeros64_eq]; exact Blk.new w _ _
  generalize nought = z at *
  go_enter Try.func17, Try.ntmps17
  go_wp2
  go_ret
  exact ⟨rfl, (Fr.refl _ w).alloc _⟩

/-- A byte of Sector(n). -/
def sectI (n : Int) (k : Nat) : Int := wrap64 (n + wrap64 ((k : Int) * bits .and .i64 (n / 256) 3)) % 256
def sect (n : Int) : List UInt8 := (List.range 64).map fun k => UInt8.ofNat (sectI n k).toNat
theorem sect_length (n : Int) : (sect n).length = 64 := by simp [sect]

def sectPart (n : Int) (k : Nat) : List Value := (List.range 64).map fun j => if j < k then .int .u8 (sectI n j) else .int .u8 0
theorem sectPart_zero (n : Int) : sectPart n 0 = bts nought := by
  simp only [sectPart, Nat.not_lt_zero, if_false, bts, nought, List.map_const', List.map_replicate, List.length_range]; rfl
theorem sectPart_done (n : Int) : sectPart n 64 = bts (sect n) := by
  simp only [sectPart, bts, sect, List.map_map]
  refine List.map_congr_left (fun j hj => ?_)
  rw [if_pos (by simpa using hj)]
  have h0 : 0 ≤ sectI n j ∧ sectI n j < 256 := by unfold sectI; omega
  simp only [Function.comp, UInt8.toNat_ofNat']
  congr 1
  omega
theorem sectPart_set (n : Int) (k : Nat) (hk : k < 64) : (sectPart n k).toArray.setIfInBounds k (.int .u8 (sectI n k)) = (sectPart n (k + 1)).toArray := by
  rw [List.setIfInBounds_toArray]
  congr 1
  refine List.ext_getElem? (fun j => ?_)
  rw [List.getElem?_set]
  simp only [sectPart, List.length_map, List.length_range, List.getElem?_map]
  by_cases hj : j < 64
  · rw [List.getElem?_range hj]
    by_cases he : k = j
    · subst he; simp [hk]
    · rw [if_neg he]; simp only [Option.map_some]
      by_cases h2 : j < k
      · rw [if_pos h2, if_pos (by omega)]
      · rw [if_neg h2, if_neg (by omega)]
  · rw [if_neg (by omega)]
    rw [List.getElem?_eq_none (by simpa using hj)]; rfl

set_option maxRecDepth 100000 in
theorem Sector_any (n : Int) (w : World) (h0 : -9223372036854775808 ≤ n) (h1 : n ≤ 9223372036854775807) : Calls Try.prog 12 #[.int .i64 n] w fun e w' => e = .returned (.slice (some ⟨w.heap.size, 0, none⟩) 64 64) ∧ Blk w' w.heap.size 5 (bts (sect n)).toArray ∧ Fr Nob w w' := by
  have hmk := make64
  go_enter Try.func12, Try.ntmps12
  go_wp2
  go_loopw [4, 8] (fun _ v wr => ∃ k : Nat, k ≤ 64 ∧ v = .int .i64 k ∧ Fr Nob w wr ∧ Hid (Blk wr w.heap.size 5 (sectPart n k).toArray)) (fun _ v _ => 64 - (intOf v).toNat)
  case atStart => exact ⟨0, by omega, rfl, (Fr.refl _ w).alloc _, by show Blk _ _ _ _; rw [sectPart_zero, ← zeros64_eq]; exact Blk.new w _ _⟩
  case round =>
    obtain ⟨k, hk, rfl, hf, hb⟩ := hrel
    have fz := hb.out.frozen k
    by_cases hlt : k < 64
    · have hc : ∃ v, wr.cell? ⟨w.heap.size, k, none⟩ = some v := by
        rw [hb.out.cell k]; exact ⟨.int .u8 0, by simp [sectPart, hlt]⟩
      obtain ⟨v, hc⟩ := hc
      go_wp2
      go_roundw
      case rel =>
        refine ⟨k + 1, by omega, by go_num, hf.setCell (.inl (Nat.le_refl _)) _, ?_⟩
        have := hb.out.set_ k (.int .u8 (sectI n k))
        rw [sectPart_set n k hlt] at this
        exact this
      case measure => simp [intOf]; omega
    · obtain rfl : k = 64 := by omega
      go_wp2
      go_ret
      refine ⟨rfl, ?_, hf⟩
      rw [← sectPart_done]; exact hb.out
end Go.Proofs.Ytieiopeblleheaa
