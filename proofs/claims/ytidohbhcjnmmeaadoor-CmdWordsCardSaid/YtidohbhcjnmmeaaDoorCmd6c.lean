/-
  Commands: same (unlike fields, part c).
-/
import Derived.Test.YtidohbhcjnmmeaaDoorCmd5
namespace Go.Proofs.YtidohbhcjnmmeaaDoor
set_option linter.unusedSimpArgs false
set_option linter.unusedVariables false
open Go.RowKit

set_option maxHeartbeats 8000000 in
set_option maxRecDepth 100000 in
theorem same_o (ak ap1 ap2 aq1 aq2 an ao aa ab : Int) (af : Bool) (bo ba bb : Int) (bf : Bool) (A B : Option Addr) (m n ca cb : Nat) (w : World) (h : ¬ ao = bo) :
    Calls Tryd.prog 21 #[.agg #[.int .i64 ak, .int .i64 ao, .int .i64 aa, .int .i64 ab, .bool af, .slice A m ca, .int .i64 ap1, .int .i64 ap2, .int .i64 aq1, .int .i64 aq2, .int .i64 an], .agg #[.int .i64 ak, .int .i64 bo, .int .i64 ba, .int .i64 bb, .bool bf, .slice B n cb, .int .i64 ap1, .int .i64 ap2, .int .i64 aq1, .int .i64 aq2, .int .i64 an]] w fun e w' => e = .returned (.bool false) ∧ Fr Nob w w' := by
  have HF2 : Hid (Fr Nob w ((w.alloc (.cells #[.int .i64 ak, .int .i64 ao, .int .i64 aa, .int .i64 ab, .bool af, .slice A m ca, .int .i64 ap1, .int .i64 ap2, .int .i64 aq1, .int .i64 aq2, .int .i64 an] 32)).alloc (.cells #[.int .i64 ak, .int .i64 bo, .int .i64 ba, .int .i64 bb, .bool bf, .slice B n cb, .int .i64 ap1, .int .i64 ap2, .int .i64 aq1, .int .i64 aq2, .int .i64 an] 32))) := ((Fr.refl _ _).alloc _).alloc _
  go_enter Tryd.func21, Tryd.ntmps21
  go_wp2
  go_ret
  exact ⟨rfl, HF2.out⟩

set_option maxHeartbeats 8000000 in
set_option maxRecDepth 100000 in
theorem same_a (ak ap1 ap2 aq1 aq2 an ao aa ab : Int) (af : Bool) (ba bb : Int) (bf : Bool) (A B : Option Addr) (m n ca cb : Nat) (w : World) (h : ¬ aa = ba) :
    Calls Tryd.prog 21 #[.agg #[.int .i64 ak, .int .i64 ao, .int .i64 aa, .int .i64 ab, .bool af, .slice A m ca, .int .i64 ap1, .int .i64 ap2, .int .i64 aq1, .int .i64 aq2, .int .i64 an], .agg #[.int .i64 ak, .int .i64 ao, .int .i64 ba, .int .i64 bb, .bool bf, .slice B n cb, .int .i64 ap1, .int .i64 ap2, .int .i64 aq1, .int .i64 aq2, .int .i64 an]] w fun e w' => e = .returned (.bool false) ∧ Fr Nob w w' := by
  have HF2 : Hid (Fr Nob w ((w.alloc (.cells #[.int .i64 ak, .int .i64 ao, .int .i64 aa, .int .i64 ab, .bool af, .slice A m ca, .int .i64 ap1, .int .i64 ap2, .int .i64 aq1, .int .i64 aq2, .int .i64 an] 32)).alloc (.cells #[.int .i64 ak, .int .i64 ao, .int .i64 ba, .int .i64 bb, .bool bf, .slice B n cb, .int .i64 ap1, .int .i64 ap2, .int .i64 aq1, .int .i64 aq2, .int .i64 an] 32))) := ((Fr.refl _ _).alloc _).alloc _
  go_enter Tryd.func21, Tryd.ntmps21
  go_wp2
  go_ret
  exact ⟨rfl, HF2.out⟩
end Go.Proofs.YtidohbhcjnmmeaaDoor
