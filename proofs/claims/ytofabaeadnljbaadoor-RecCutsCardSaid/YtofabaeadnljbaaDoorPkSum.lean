/-
  The checked sum, and the point that is drawn from two numbers.
-/
import Derived.Test.YtofabaeadnljbaaDoorPkEdge
import Derived.Test.YtofabaeadnljbaaDoorPkNodeOf
namespace Go.Proofs.YtofabaeadnljbaaDoor
set_option linter.unusedSimpArgs false
set_option linter.unusedVariables false
open Go.RowKit

set_option maxRecDepth 100000 in
theorem sum_any (a b : Int) (w : World) : Calls Tryd.prog 31 #[.int .i64 a, .int .i64 b] w fun e w' => e = .returned (.tuple #[.int .i64 (w64 (a + b)), .bool (sumOk a b)]) ∧ w = w' := by
  go_enter Tryd.func31, Tryd.ntmps31
  go_wp2
  go_ret2
  exact ⟨rfl, rfl⟩

theorem i64_and7 (n : Int) : bits .and .i64 n 7 = n % 8 := by
  have := i64_mask n 7 3 (by decide) (by decide) (by decide)
  simpa using this
theorem P_size : (Tryd.prog.info? 23).map (·.size) = some 2 := by kernel_rfl
set_option maxRecDepth 100000 in
theorem At14_any (a b : Int) (w : World) : Calls Tryd.prog 12 #[.int .i64 a, .int .i64 b] w fun e w' => e = .returned (.agg #[.int .i64 (a % 8), .int .i64 (b % 8)]) ∧ Fr Nob w w' := by
  have ea := i64_and7 a
  have eb := i64_and7 b
  go_enter Tryd.func12, Tryd.ntmps12
  go_wp2
  have hb : Blk (w.alloc (.cells #[.int .i64 (a % 8), .int .i64 (b % 8)] 23)) w.heap.size 23 #[.int .i64 (a % 8), .int .i64 (b % 8)] := Blk.new w _ _
  have hF : Fr Nob w (w.alloc (.cells #[.int .i64 (a % 8), .int .i64 (b % 8)] 23)) := (Fr.refl _ w).alloc _
  exact bodyPost_ret (results_cell_row rfl _ _ _ _ _ _ _ rfl hb Tryd.underlying23 rfl P_size) rfl ⟨rfl, hF⟩
end Go.Proofs.YtofabaeadnljbaaDoor
