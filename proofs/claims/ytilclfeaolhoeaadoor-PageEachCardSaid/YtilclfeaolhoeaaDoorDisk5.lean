/-
  What Read, Nought and Sector make.
-/
import Derived.Test.YtilclfeaolhoeaaDoorDisk2
import Derived.Deep.OwnRows
namespace Go.Proofs.YtilclfeaolhoeaaDoor
set_option linter.unusedSimpArgs false
set_option linter.unusedVariables false
open Go.RowKit

def zeros64 : Array Value := madeCells #[.int .u8 0] 64
theorem zeros64_eq : zeros64 = (bts nought).toArray := by
  rw [zeros64, madeCells_toArray]; simp [bts, nought]

theorem make64 (w : World) : (Instr.makeSlice 35 (.int .i64 64) (.int .i64 64)).run Tryd.prog w = .ok (.slice (some ⟨w.heap.size, 0, none⟩) 64 64) (w.alloc (.cells zeros64 5)) :=
  run_make_row' (P := Tryd.prog) 35 5 (.int .u8 0) 1 Tryd.underlying35 info_u8 rfl .i64 .i64 64 (by omega) (by omega) w

section
variable {R : Nat → Prop} {w : World} {p : Nat} {S : DS}

theorem Read_bad (i : Int) (h : DiskOk R w p S) (hb : S.wrong i ≠ 0) :
    Calls Tryd.prog 37 #[.pointer (some ⟨p, 0, none⟩), .int .i64 i] w fun e w' => e = .returned (.tuple #[.slice none 0 0, .int .i64 (S.wrong i)]) ∧ w = w' := by
  have hb' : (S.wrong i != 0) = true := by simpa using hb
  have hw := (wrong_any (w := w) i h)
  have HW := Lib.hid hw
  clear hw h hb
  generalize S.wrong i = e0 at *
  go_enter Tryd.func37, Tryd.ntmps37
  go_wp2_with (go_at_call 43; refine HW.out.mono ?_; rintro e w' ⟨rfl, rfl⟩)
  go_ret2
  exact ⟨rfl, rfl⟩

set_option maxHeartbeats 400000 in
set_option maxRecDepth 100000 in
theorem Read_good (i : Nat) (s : List UInt8) (h : DiskOk R w p S) (hd : S.dead = false) (hs : S.now[i]? = some s) :
    Calls Tryd.prog 37 #[.pointer (some ⟨p, 0, none⟩), .int .i64 i] w fun e w' => e = .returned (.tuple #[.slice (some ⟨w.heap.size, 0, none⟩) 64 64, .int .i64 0]) ∧ Blk w' w.heap.size 5 (bts s).toArray ∧ Fr Nob w w' := by
  have hw := wrong_any (w := w) i h
  have hi : i < S.now.length := (List.getElem?_eq_some_iff.1 hs).1
  rw [show S.wrong i = 0 from by unfold DS.wrong; rw [if_neg (by omega), hd]; rfl] at hw
  have HW := Lib.hid hw
  obtain ⟨nb, lb, nv, lv, wv, ws, h⟩ := h
  obtain ⟨h0, h1, h2, h3, h4, h5⟩ := h.cells
  have hi' : i < nv.length := Nat.lt_of_lt_of_le hi h.now.1
  have hsec := h.now.2 i _ s (List.getElem?_eq_getElem hi') hs
  have hpl : p < w.heap.size := h.blk.lt
  have hnl : nb < w.heap.size := h.bnow.lt
  have cn : w.cell? ⟨nb, i, none⟩ = some (nv[i]'hi') := by rw [h.bnow.cell i]; simp
  have H := Lib.hid h
  clear hw h hs hd
  generalize nv[i] = v at *
  have hmk := make64
  have hlen := hsec.1
  have Hlen := Lib.hid hlen
  clear hlen
  have hcur : Hid (((w.alloc (.cells zeros64 5)).heap[w.heap.size]? = some (.cells (bts nought).toArray 5 (0, 0)))) := by
    show _ = _
    rw [← zeros64_eq]; exact heap_alloc_new w _
  have hinf : (Tryd.prog.info? 5).map (·.size) = some 1 := by kernel_rfl
  have HF := Lib.hid ((Below.refl w.heap.size w).alloc (Nat.le_refl _) (.cells zeros64 5))
  rcases hsec.2 with ⟨rfl, rfl⟩ | ⟨hown, hR⟩
  · clear hsec
    go_enter Tryd.func37, Tryd.ntmps37
    go_wp2_with (first
      | (go_at_call 43; refine HW.out.mono ?_; rintro e w' ⟨rfl, rfl⟩)
      | (with_reducible refine wpList_copy_nothing rfl (.tmp 15) (.tmp 22) 35 35 rfl 5 Tryd.underlying35 hinf _ _ _ _ _ _ rfl rfl rfl ?_))
    go_ret2
    exact ⟨rfl, hcur.out, Fr.of_below HF.out⟩
  · obtain ⟨g, cap, rfl, _, hglt⟩ := hown.form (by omega)
    have hsrc : Hid (∀ j u, (bts s)[j]? = some u → (w.alloc (.cells zeros64 5)).cell? ((⟨g, 0, none⟩ : Addr).add j) = some u) := by
      intro j u hu
      rw [World.cell?_alloc_lt _ _ _ (by unfold Addr.add; split <;> exact hglt)]
      exact hown.cells (g := g) rfl j u hu
    clear hsec hown
    have hn : Hid ((bts s).length = Nat.min 64 64) := by show _ = _; rw [bts_length, Hlen.out]; rfl
    have hfit : Hid (0 + (bts s).length ≤ (bts nought).length) := by show _ ≤ _; rw [bts_length, bts_length, Hlen.out]; simp [nought]
    go_enter Tryd.func37, Tryd.ntmps37
    go_wp2_with (first
      | (go_at_call 43; refine HW.out.mono ?_; rintro e w' ⟨rfl, rfl⟩)
      | (with_reducible refine wpList_copy_splice rfl (.tmp 15) (.tmp 22) 35 35 rfl 5 Tryd.underlying35 hinf (some ⟨w.heap.size, 0, none⟩) (some ⟨g, 0, none⟩) 64 64 64 cap rfl rfl w.heap.size 0 (bts nought) 5 hcur.out (bts s) hn.out (fun _ => ⟨rfl, _, rfl, hsrc.out⟩) hfit.out (bts_one s) w.heap.size w HF.out (Nat.le_refl _) ?_
         intro w3 hg3 hb3
         have HB3 := Lib.hid hb3
         clear hb3))
    go_ret2
    refine ⟨rfl, ?_, Fr.of_below HB3.out⟩
    have := hg3.out
    rwa [show splice (bts nought) 0 (bts s) = bts s from by simp [splice, bts_length, Hlen.out, nought]] at this

end

/-- 'string(b)' where b's row is known. -/
theorem conv_own {w : World} {base n cap : Nat} {a : Addr} {s : List UInt8} (h : w.ownsRow base 5 1 (.slice (some a) n cap) n (bts s)) :
    (convert 35 9 (.slice (some a) n cap)).run Tryd.prog w = .ok (.string ⟨s.toArray⟩) w := by
  have hl : s.length = n := by have := h.1; rw [bts_length] at this; omega
  obtain ⟨g, e⟩ : ∃ g, a = ⟨g, 0, none⟩ := by
    rcases h.2 with ⟨e, _⟩ | ⟨g, cap', cur, e, _⟩
    · cases e
    · injection e with e; injection e with e; exact ⟨g, e⟩
  subst e
  have hc := h.cells (g := g) rfl
  subst hl
  refine run_convert_bytes_back (P := Tryd.prog) w 35 9 5 ⟨g, 0, none⟩ cap s Tryd.underlying35 Tryd.underlying5 Tryd.underlying9 (fun j hj => hc j _ ?_)
  rw [bts_get]; simp [hj]

theorem own_of_blk {w : World} {g : Nat} {t : TypeId} {xs : List Value} (h : Blk w g t xs.toArray) (hm : xs.length ≤ maxLen) : w.ownsRow 0 t 1 (.slice (some ⟨g, 0, none⟩) xs.length xs.length) xs.length xs :=
  ⟨by omega, .inr ⟨g, _, _, rfl, Nat.zero_le _, h, Nat.le_refl _, hm, by simp, by simp⟩⟩

theorem bts_own {w : World} {g : Nat} {s : List UInt8} (h : Blk w g 5 (bts s).toArray) (hs : s.length = 64) : w.ownsRow 0 5 1 (.slice (some ⟨g, 0, none⟩) 64 64) 64 (bts s) := by
  have := own_of_blk h (by rw [bts_length, hs]; decide)
  rwa [bts_length, hs] at this

end Go.Proofs.YtilclfeaolhoeaaDoor
