/-
  Commands: same (unlike fields, part b).
-/
import Derived.Test.YtidohbhcjnmmeaaDoorCmd5
namespace Go.Proofs.YtidohbhcjnmmeaaDoor
set_option linter.unusedSimpArgs false
set_option linter.unusedVariables false
open Go.RowKit

set_option maxHeartbeats 8000000 in
set_option maxRecDepth 100000 in
theorem same_q1 (ak ap1 ap2 aq1 aq2 an ao aa ab : Int) (af : Bool) (bq1 bq2 bn bo ba bb : Int) (bf : Bool) (A B : Option Addr) (m n ca cb : Nat) (w : World) (h : ¬ aq1 = bq1) :
    Calls Tryd.prog 21 #[.agg #[.int .i64 ak, .int .i64 ao, .int .i64 aa, .int .i64 ab, .bool af, .slice A m ca, .int .i64 ap1, .int .i64 ap2, .int .i64 aq1, .int .i64 aq2, .int .i64 an], .agg #[.int .i64 ak, .int .i64 bo, .int .i64 ba, .int .i64 bb, .bool bf, .slice B n cb, .int .i64 ap1, .int .i64 ap2, .int .i64 bq1, .int .i64 bq2, .int .i64 bn]] w fun e w' => e = .returned (.bool false) ∧ Fr Nob w w' := by
  have HF2 : Hid (Fr Nob w ((w.alloc (.cells #[.int .i64 ak, .int .i64 ao, .int .i64 aa, .int .i64 ab, .bool af, .slice A m ca, .int .i64 ap1, .int .i64 ap2, .int .i64 aq1, .int .i64 aq2, .int .i64 an] 32)).alloc (.cells #[.int .i64 ak, .int .i64 bo, .int .i64 ba, .int .i64 bb, .bool bf, .slice B n cb, .int .i64 ap1, .int .i64 ap2, .int .i64 bq1, .int .i64 bq2, .int .i64 bn] 32))) := ((Fr.refl _ _).alloc _).alloc _
  go_enter Tryd.func21, Tryd.ntmps21
  go_wp2
  go_ret
  exact ⟨rfl, HF2.out⟩

set_option maxHeartbeats 8000000 in
set_option maxRecDepth 100000 in
theorem same_q2 (ak ap1 ap2 aq1 aq2 an ao aa ab : Int) (af : Bool) (bq2 bn bo ba bb : Int) (bf : Bool) (A B : Option Addr) (m n ca cb : Nat) (w : World) (h : ¬ aq2 = bq2) :
    Calls Tryd.prog 21 #[.agg #[.int .i64 ak, .int .i64 ao, .int .i64 aa, .int .i64 ab, .bool af, .slice A m ca, .int .i64 ap1, .int .i64 ap2, .int .i64 aq1, .int .i64 aq2, .int .i64 an], .agg #[.int .i64 ak, .int .i64 bo, .int .i64 ba, .int .i64 bb, .bool bf, .slice B n cb, .int .i64 ap1, .int .i64 ap2, .int .i64 aq1, .int .i64 bq2, .int .i64 bn]] w fun e w' => e = .returned (.bool false) ∧ Fr Nob w w' := by
  have HF2 : Hid (Fr Nob w ((w.alloc (.cells #[.int .i64 ak, .int .i64 ao, .int .i64 aa, .int .i64 ab, .bool af, .slice A m ca, .int .i64 ap1, .int .i64 ap2, .int .i64 aq1, .int .i64 aq2, .int .i64 an] 32)).alloc (.cells #[.int .i64 ak, .int .i64 bo, .int .i64 ba, .int .i64 bb, .bool bf, .slice B n cb, .int .i64 ap1, .int .i64 ap2, .int .i64 aq1, .int .i64 bq2, .int .i64 bn] 32))) := ((Fr.refl _ _).alloc _).alloc _
  go_enter Tryd.func21, Tryd.ntmps21
  go_wp2
  go_ret
  exact ⟨rfl, HF2.out⟩

set_option maxHeartbeats 8000000 in
set_option maxRecDepth 100000 in
theorem same_n (ak ap1 ap2 aq1 aq2 an ao aa ab : Int) (af : Bool) (bn bo ba bb : Int) (bf : Bool) (A B : Option Addr) (m n ca cb : Nat) (w : World) (h : ¬ an = bn) :
    Calls Tryd.prog 21 #[.agg #[.int .i64 ak, .int .i64 ao, .int .i64 aa, .int .i64 ab, .bool af, .slice A m ca, .int .i64 ap1, .int .i64 ap2, .int .i64 aq1, .int .i64 aq2, .int .i64 an], .agg #[.int .i64 ak, .int .i64 bo, .int .i64 ba, .int .i64 bb, .bool bf, .slice B n cb, .int .i64 ap1, .int .i64 ap2, .int .i64 aq1, .int .i64 aq2, .int .i64 bn]] w fun e w' => e = .returned (.bool false) ∧ Fr Nob w w' := by
  have HF2 : Hid (Fr Nob w ((w.alloc (.cells #[.int .i64 ak, .int .i64 ao, .int .i64 aa, .int .i64 ab, .bool af, .slice A m ca, .int .i64 ap1, .int .i64 ap2, .int .i64 aq1, .int .i64 aq2, .int .i64 an] 32)).alloc (.cells #[.int .i64 ak, .int .i64 bo, .int .i64 ba, .int .i64 bb, .bool bf, .slice B n cb, .int .i64 ap1, .int .i64 ap2, .int .i64 aq1, .int .i64 aq2, .int .i64 bn] 32))) := ((Fr.refl _ _).alloc _).alloc _
  go_enter Tryd.func21, Tryd.ntmps21
  go_wp2
  go_ret
  exact ⟨rfl, HF2.out⟩
end Go.Proofs.YtidohbhcjnmmeaaDoor
