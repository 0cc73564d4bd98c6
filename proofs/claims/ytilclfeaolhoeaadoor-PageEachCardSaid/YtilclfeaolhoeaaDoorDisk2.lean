/-
  What New, Clone of a row of bytes, Write and Read do.
-/
import Derived.Test.YtilclfeaolhoeaaDoorDisk1
import Derived.Laws.CopyOwn
namespace Go.Proofs.YtilclfeaolhoeaaDoor
set_option linter.unusedSimpArgs false
set_option linter.unusedVariables false
open Go.RowKit

theorem info_u8 : (Tryd.prog.info? 5).map (fun i => (i.zero, i.size, i.bytes)) = some (some (.int .u8 0), 1, 1) := by kernel_rfl

set_option maxHeartbeats 400000 in
set_option maxRecDepth 100000 in
theorem clone_bytes_any (a : Addr) (n c : Nat) (s : List UInt8) (w : World) (hs : s.length = n) (hc : ∀ j u, (bts s)[j]? = some u → w.cell? (a.add j) = some u) (hb : a.block < w.heap.size) (hn : n ≤ 140737488351232) :
    Calls Tryd.prog 40 #[.slice (some a) n c] w fun e w' => ∃ v', e = .returned v' ∧ w'.ownsRow w.heap.size 5 1 v' n (bts s) ∧ v' ≠ .slice none 0 0 ∧ Fr Nob w w' := by
  obtain ⟨i0, hi, hz0, hz1, hz2⟩ := info_parts info_u8
  have Hc := Lib.hid hc
  have Hs := Lib.hid hs
  clear hc hs
  have c1 : Hid ((bts s).length = n * 1) := by rw [bts_length, Hs.out]; show n = n * 1; omega
  have c2 : Hid (∀ j u, (bts s)[j]? = some u → (w.alloc (.cells #[] 5)).cell? (a.add j) = some u) := by
    intro j u hu; rw [World.cell?_alloc_lt _ _ _ (by unfold Addr.add; split <;> exact hb)]; exact Hc.out j u hu
  have c3 : Hid (0 + n ≤ maxLen) := by show 0 + n ≤ maxLen; unfold maxLen; omega
  have hnil := fun (w : World) (a : Option Addr) (n c n' c' : Nat) => Lib.run_eql_slice_nil (P := Tryd.prog) w 35 5 a n c n' c' Tryd.underlying35
  go_enter Tryd.func40, Tryd.ntmps40
  go_wp2_with (at_builtin; go_must (refine wpList_append_own_at _ rfl (.tmp 5) (.tmp 6) 35 rfl w.heap.size 5 i0 (.int .u8 0) 1 1 Tryd.underlying35 hi hz0 hz1 hz2 rfl (by decide) (.slice (some ⟨w.heap.size, 0, none⟩) 0 0) 0 [] rfl (World.ownsRow_made w #[] 0 (Nat.le_refl _) (by decide) rfl) a n c (bts s) rfl c1.out c2.out (bts_one s) c3.out (by omega) (by simp) ?_); intro v' w1 hown hg hn0 hat)
  go_ret
  refine ⟨v', rfl, by simpa using hown, by rw [Ne, hn0]; simp, ?_⟩
  exact ((Fr.refl _ _).alloc _).grown hg (fun k hk => .inl (Nat.le_of_eq (by simpa [Value.ownBlock] using hk)))
end Go.Proofs.YtilclfeaolhoeaaDoor
