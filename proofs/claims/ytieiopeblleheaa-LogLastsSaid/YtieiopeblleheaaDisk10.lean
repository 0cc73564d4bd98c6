/-
  What Clone of rows and of waiting writes, and Copy, do.
-/
import Derived.Test.YtieiopeblleheaaDiskApi
import Derived.Test.YtieiopeblleheaaRoundRegion
namespace Go.Proofs.Ytieiopeblleheaa
set_option linter.unusedSimpArgs false
set_option linter.unusedVariables false
open Go.RowKit


set_option maxHeartbeats 400000 in
set_option maxRecDepth 100000 in
theorem clone_rows_any (a : Addr) (n c : Nat) (xs : List Value) (w : World) (hs : xs.length = n) (h1 : ∀ u ∈ xs, u.oneCell' = true) (hc : ∀ j u, xs[j]? = some u → w.cell? (a.add j) = some u) (hb : a.block < w.heap.size) (hn : n ≤ 4000000000) :
    Calls Try.prog 47 #[.slice (some a) n c] w fun e w' => ∃ v', e = .returned v' ∧ w'.ownsRow w.heap.size 29 1 v' n xs ∧ v' ≠ .slice none 0 0 ∧ Fr Nob w w' := by
  obtain ⟨i0, hi, hz0, hz1, hz2⟩ := info_parts info_bytes
  have Hc := Lib.hid hc
  have Hs := Lib.hid hs
  have H1 := Lib.hid h1
  clear hc hs h1
  have c1 : Hid (xs.length = n * 1) := by show _ = _; rw [Hs.out]; omega
  have c2 : Hid (∀ j u, xs[j]? = some u → (w.alloc (.cells #[] 29)).cell? (a.add j) = some u) := by
    intro j u hu; rw [World.cell?_alloc_lt _ _ _ (by unfold Addr.add; split <;> exact hb)]; exact Hc.out j u hu
  have c3 : Hid (0 + n ≤ maxLen) := by show 0 + n ≤ maxLen; unfold maxLen; omega
  have hnil := fun (w : World) (a : Option Addr) (n c n' c' : Nat) => Lib.run_eql_slice_nil (P := Try.prog) w 71 29 a n c n' c' Try.underlying71
  go_enter Try.func47, Try.ntmps47
  go_wp2_with (at_builtin; go_must (refine wpList_append_own_at _ rfl (.tmp 5) (.tmp 6) 71 rfl w.heap.size 29 i0 (.slice none 0 0) 1 24 Try.underlying71 hi hz0 hz1 hz2 rfl (by decide) (.slice (some ⟨w.heap.size, 0, none⟩) 0 0) 0 [] rfl (World.ownsRow_made w #[] 0 (Nat.le_refl _) (by decide) rfl) a n c xs rfl c1.out c2.out H1.out c3.out (by omega) (by simp) ?_); intro v' w1 hown hg hn0 hat)
  go_ret
  refine ⟨v', rfl, by simpa using hown, by rw [Ne, hn0]; simp, ?_⟩
  exact ((Fr.refl _ _).alloc _).grown hg (fun k hk => .inl (Nat.le_of_eq (by simpa [Value.ownBlock] using hk)))

set_option maxHeartbeats 400000 in
set_option maxRecDepth 100000 in
theorem clone_waits_any (v : Value) (n : Nat) (xs : List Value) (w : World) (ho : w.ownsRow 0 77 2 v n xs) (h1 : ∀ u ∈ xs, u.oneCell' = true) (hn : n ≤ 4000000000) :
    Calls Try.prog 48 #[v] w fun e w' => ∃ v', e = .returned v' ∧ w'.ownsRow w.heap.size 77 2 v' n xs ∧ Fr Nob w w' := by
  obtain ⟨i0, hi, hz0, hz1, hz2⟩ := info_parts info_write
  have H1 := Lib.hid h1
  clear h1
  have hnil := fun (w : World) (a : Option Addr) (n c n' c' : Nat) => Lib.run_eql_slice_nil (P := Try.prog) w 72 77 a n c n' c' Try.underlying72
  rcases ho.2 with ⟨rfl, rfl⟩ | ⟨g, c, cur, rfl, _, hh, _⟩
  · obtain rfl : xs = [] := List.eq_nil_of_length_eq_zero (by have := ho.1; omega)
    clear ho
    go_enter Try.func48, Try.ntmps48
    go_wp2
    go_ret
    exact ⟨_, rfl, World.ownsRow_nil _ _ _ _, Fr.refl _ _⟩
  · have hb : g < w.heap.size := Blk.lt hh
    have c1 : Hid (xs.length = n * 2) := ho.1
    have c2 : Hid (∀ j u, xs[j]? = some u → (w.alloc (.cells #[] 77)).cell? ((⟨g, 0, none⟩ : Addr).add j) = some u) := by
      intro j u hu; rw [World.cell?_alloc_lt _ _ _ (by unfold Addr.add; split <;> exact hb)]; exact ho.cells (g := g) rfl j u hu
    have c3 : Hid (0 + n ≤ maxLen) := by show 0 + n ≤ maxLen; unfold maxLen; omega
    clear ho hh
    go_enter Try.func48, Try.ntmps48
    go_wp2_with (at_builtin; go_must (refine wpList_append_own_at _ rfl (.tmp 5) (.tmp 6) 72 rfl w.heap.size 77 i0 (.agg #[.int .i64 0, .slice none 0 0]) 2 32 Try.underlying72 hi hz0 hz1 hz2 rfl (by decide) (.slice (some ⟨w.heap.size, 0, none⟩) 0 0) 0 [] rfl (World.ownsRow_made w #[] 0 (Nat.le_refl _) (by decide) rfl) ⟨g, 0, none⟩ n c xs rfl c1.out c2.out H1.out c3.out (by omega) (by simp) ?_); intro v' w1 hown hg hn0 hat)
    go_ret
    refine ⟨v', rfl, by simpa using hown, ?_⟩
    exact ((Fr.refl _ _).alloc _).grown hg (fun k hk => .inl (Nat.le_of_eq (by simpa [Value.ownBlock] using hk)))

theorem Sec.u8s {R R' : Nat → Prop} {w : World} {v : Value} {s : List UInt8} (h : Sec R w v s) (hd : ∀ b, R b → (∃ cs, Blk w b 5 cs) → R' b) : Sec R' w v s := by
  refine ⟨h.1, ?_⟩
  rcases h.2 with h2 | ⟨h2, h3⟩
  · exact .inl h2
  · exact .inr ⟨h2, fun g hg => hd g (h3 g hg) (own_blk h2 hg)⟩
theorem Sec.one {R : Nat → Prop} {w : World} {v : Value} {s : List UInt8} (h : Sec R w v s) : v.oneCell' = true := by
  obtain ⟨A, n, c, rfl⟩ := h.form; rfl
end Go.Proofs.Ytieiopeblleheaa
