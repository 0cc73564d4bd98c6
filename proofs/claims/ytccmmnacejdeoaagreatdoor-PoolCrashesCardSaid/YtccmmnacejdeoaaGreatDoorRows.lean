/-
  NARROWER THAN 'FOR EVERY INPUT', by the rows' own cells (each row's printed sentence says how): PoolBounds: laid · PoolFrames: laid · PoolCrashes: laid.
  DERIVED. THE GIVEN ROWS OF THIS SEAT. 3 by the template 'for every input the law returns true; each argument reads behind the call as it read before'; 0 by the template 'total and deterministic' (their statements: YtccmmnacejdeoaaGreatDoorTotals.lean).
  GIVEN WITH THE SEED: the statements are not yours to turn. If you find one false, say at which input.
  Laid BY PROGRAM, IN A SANDBOX (cutbox-rows.mjs): the forced cells as the released guide's own fill.sh prints them over the translation 200988bee19a02be… (all of the seat's roots in one cut). By AI agents, Wed Nov 11 2026. No macro, syntax, notation, axiom, sorry.
-/
import Derived.Test.YtccmmnacejdeoaaGreatDoorChecked
import GoSem.PinnedTables
import GoSem.Claim
import GoSem.ClaimJoined
import GoSem.ClaimMapViews
import Derived.JoinedTies
import Derived.KernelRfl
namespace Go.Proofs.YtccmmnacejdeoaaGreatDoor
/- THE CELL 'sum', in the pinned program and in every row, IS THE sha256 OF THE DUMP (.gsa) THAT YtccmmnacejdeoaaGreatDoorProg.lean LOADS. Nothing in Lean hashes anything: it is a label: what it is worth is what the hold of that sum in a sandbox is worth. -/
noncomputable def Tryz.pinned : Pinned := { name := "ytccmmnacejdeoaagreatdoor", sum := "200988bee19a02be73d8fb9e4f1f954f0d01d142d919bdc58e0f7e132c2491e3", checked := Tryz.checked }
namespace Rows
def none {H : Type} : Left H := { results := [], args := [] }

/- WHAT THE LISTED PACKAGE-LEVEL VARIABLES READ AS WHEN THE CALL BEGINS. Each datum BY PROGRAM (the guide's laid-datum.mjs) off the statement by which the dump's own 'gosem.cut.vars' lays the variable. In a bare row this is a premise. The card (YtccmmnacejdeoaaGreatDoorCards.lean) ties it to the program's text. -/
def laid_unicode_utf8_acceptRanges {H : Type} : DataW H := .agg [.agg [.lit (.int .u8 128), .lit (.int .u8 191)], .agg [.lit (.int .u8 160), .lit (.int .u8 191)], .agg [.lit (.int .u8 128), .lit (.int .u8 159)], .agg [.lit (.int .u8 144), .lit (.int .u8 191)], .agg [.lit (.int .u8 128), .lit (.int .u8 143)], .agg [.lit (.int .u8 0), .lit (.int .u8 0)], .agg [.lit (.int .u8 0), .lit (.int .u8 0)], .agg [.lit (.int .u8 0), .lit (.int .u8 0)], .agg [.lit (.int .u8 0), .lit (.int .u8 0)], .agg [.lit (.int .u8 0), .lit (.int .u8 0)], .agg [.lit (.int .u8 0), .lit (.int .u8 0)], .agg [.lit (.int .u8 0), .lit (.int .u8 0)], .agg [.lit (.int .u8 0), .lit (.int .u8 0)], .agg [.lit (.int .u8 0), .lit (.int .u8 0)], .agg [.lit (.int .u8 0), .lit (.int .u8 0)], .agg [.lit (.int .u8 0), .lit (.int .u8 0)]]
/-- One of Go's own tables, pinned by name: the form's constant. -/
def laid_unicode_utf8_first : DataW Unit := Go.Pinned.utf8First

/-- 'terrierlaw5.PoolBounds': WHATEVER THE INPUT: true; the input reads as it did. -/
def poolBoundsSpec : ChangeSpec := { name := "poolBounds", fn := fun _ => fun
  | [d1, d2, d3, d4] => { results := [.lit (.bool true)], args := [d1, d2, d3, d4] }
  | _ => none }
def poolBoundsRow : OpenClaim := { program := "ytccmmnacejdeoaagreatdoor", sum := "200988bee19a02be73d8fb9e4f1f954f0d01d142d919bdc58e0f7e132c2491e3", func := "terrier/terrierlaw5.PoolBounds", spec := "poolBounds", unfollowed := true, recurses := true, named := ["unicode/utf8.first", "unicode/utf8.acceptRanges"], apart := false, laid := [("unicode/utf8.acceptRanges", laid_unicode_utf8_acceptRanges), ("unicode/utf8.first", laid_unicode_utf8_first)] }
def PoolBoundsSaid : Prop := poolBoundsRow.holds Tryz.pinned (OpenSpec.ofChange poolBoundsSpec)

/-- ITS FALSE NEIGHBOUR: 'it returns false'. Refute it at one input. -/
def poolBoundsWrong : ChangeSpec := { name := "poolBounds", fn := fun _ => fun
  | [d1, d2, d3, d4] => { results := [.lit (.bool false)], args := [d1, d2, d3, d4] }
  | _ => none }
def PoolBoundsWrongFalsely : Prop := poolBoundsRow.holds Tryz.pinned (OpenSpec.ofChange poolBoundsWrong)

/-- 'terrierlaw5.PoolFrames': WHATEVER THE INPUT: true; the input reads as it did. -/
def poolFramesSpec : ChangeSpec := { name := "poolFrames", fn := fun _ => fun
  | [d1, d2, d3] => { results := [.lit (.bool true)], args := [d1, d2, d3] }
  | _ => none }
def poolFramesRow : OpenClaim := { program := "ytccmmnacejdeoaagreatdoor", sum := "200988bee19a02be73d8fb9e4f1f954f0d01d142d919bdc58e0f7e132c2491e3", func := "terrier/terrierlaw5.PoolFrames", spec := "poolFrames", unfollowed := true, recurses := true, named := ["unicode/utf8.first", "unicode/utf8.acceptRanges"], apart := false, laid := [("unicode/utf8.acceptRanges", laid_unicode_utf8_acceptRanges), ("unicode/utf8.first", laid_unicode_utf8_first)] }
def PoolFramesSaid : Prop := poolFramesRow.holds Tryz.pinned (OpenSpec.ofChange poolFramesSpec)

/-- ITS FALSE NEIGHBOUR: 'it returns false'. Refute it at one input. -/
def poolFramesWrong : ChangeSpec := { name := "poolFrames", fn := fun _ => fun
  | [d1, d2, d3] => { results := [.lit (.bool false)], args := [d1, d2, d3] }
  | _ => none }
def PoolFramesWrongFalsely : Prop := poolFramesRow.holds Tryz.pinned (OpenSpec.ofChange poolFramesWrong)

/-- 'terrierlaw5.PoolCrashes': WHATEVER THE INPUT: true; the input reads as it did. -/
def poolCrashesSpec : ChangeSpec := { name := "poolCrashes", fn := fun _ => fun
  | [d1, d2, d3, d4] => { results := [.lit (.bool true)], args := [d1, d2, d3, d4] }
  | _ => none }
def poolCrashesRow : OpenClaim := { program := "ytccmmnacejdeoaagreatdoor", sum := "200988bee19a02be73d8fb9e4f1f954f0d01d142d919bdc58e0f7e132c2491e3", func := "terrier/terrierlaw5.PoolCrashes", spec := "poolCrashes", unfollowed := true, recurses := true, named := ["unicode/utf8.first", "unicode/utf8.acceptRanges"], apart := false, laid := [("unicode/utf8.acceptRanges", laid_unicode_utf8_acceptRanges), ("unicode/utf8.first", laid_unicode_utf8_first)] }
def PoolCrashesSaid : Prop := poolCrashesRow.holds Tryz.pinned (OpenSpec.ofChange poolCrashesSpec)

/-- ITS FALSE NEIGHBOUR: 'it returns false'. Refute it at one input. -/
def poolCrashesWrong : ChangeSpec := { name := "poolCrashes", fn := fun _ => fun
  | [d1, d2, d3, d4] => { results := [.lit (.bool false)], args := [d1, d2, d3, d4] }
  | _ => none }
def PoolCrashesWrongFalsely : Prop := poolCrashesRow.holds Tryz.pinned (OpenSpec.ofChange poolCrashesWrong)

/- THE SECOND FORM. 'bulk': how many values and letters a reading holds, each counted each time it is reached (what is shared counts as often as it is met; a slice's spare places count too). A statement '..UptoSaid' is the law's where the arguments, and the package variables that the reading takes, are together of bulk at most 1048576: NARROWER than '..Said'. Prove '..Said' where nothing that the law and all that it calls make is longer than what came in: it says more and counts as full. Else prove '..UptoSaid'. A law counts once. -/
mutual
def uptoBulk {H : Type} : DataW H → Nat
  | .lit (.string bytes) => bytes.length + 1
  | .lit _ => 1
  | .nil => 1
  | .ptr d => uptoBulk d + 1
  | .slice elems spare => uptoBulkAll elems + uptoBulkAll spare + 1
  | .agg parts => uptoBulkAll parts + 1
  | .iface _ d => uptoBulk d + 1
  | .map entries => uptoBulkEntries entries + 1
  | .held _ => 1
def uptoBulkAll {H : Type} : List (DataW H) → Nat
  | [] => 0
  | d :: r => uptoBulk d + uptoBulkAll r
def uptoBulkEntries {H : Type} : List (Lit × DataW H) → Nat
  | [] => 0
  | x :: r => uptoBulkEntry x + uptoBulkEntries r
def uptoBulkEntry {H : Type} : Lit × DataW H → Nat
  | (.string bytes, d) => bytes.length + uptoBulk d + 1
  | (_, d) => uptoBulk d + 1
 end
def uptoSmall : (H : Type) → List (DataW H) → Bool := fun _ ds => decide (uptoBulkAll ds ≤ 1048576)
def OpenSpec.upto (s : _root_.Go.ChangeSpec) : _root_.Go.OpenSpec := { _root_.Go.OpenSpec.ofChange s with cond := some uptoSmall }

/-- 'terrierlaw5.PoolBounds', WHERE WHAT IT READS IS OF BULK AT MOST 1048576: true; the input reads as it did. -/
def poolBoundsUptoRow : OpenClaim := { program := "ytccmmnacejdeoaagreatdoor", sum := "200988bee19a02be73d8fb9e4f1f954f0d01d142d919bdc58e0f7e132c2491e3", func := "terrier/terrierlaw5.PoolBounds", spec := "poolBounds", unfollowed := true, recurses := true, named := ["unicode/utf8.first", "unicode/utf8.acceptRanges"], apart := false, laid := [("unicode/utf8.acceptRanges", laid_unicode_utf8_acceptRanges), ("unicode/utf8.first", laid_unicode_utf8_first)], narrowed := true }
def PoolBoundsUptoSaid : Prop := poolBoundsUptoRow.holds Tryz.pinned (OpenSpec.upto poolBoundsSpec)

/-- 'terrierlaw5.PoolFrames', WHERE WHAT IT READS IS OF BULK AT MOST 1048576: true; the input reads as it did. -/
def poolFramesUptoRow : OpenClaim := { program := "ytccmmnacejdeoaagreatdoor", sum := "200988bee19a02be73d8fb9e4f1f954f0d01d142d919bdc58e0f7e132c2491e3", func := "terrier/terrierlaw5.PoolFrames", spec := "poolFrames", unfollowed := true, recurses := true, named := ["unicode/utf8.first", "unicode/utf8.acceptRanges"], apart := false, laid := [("unicode/utf8.acceptRanges", laid_unicode_utf8_acceptRanges), ("unicode/utf8.first", laid_unicode_utf8_first)], narrowed := true }
def PoolFramesUptoSaid : Prop := poolFramesUptoRow.holds Tryz.pinned (OpenSpec.upto poolFramesSpec)

/-- 'terrierlaw5.PoolCrashes', WHERE WHAT IT READS IS OF BULK AT MOST 1048576: true; the input reads as it did. -/
def poolCrashesUptoRow : OpenClaim := { program := "ytccmmnacejdeoaagreatdoor", sum := "200988bee19a02be73d8fb9e4f1f954f0d01d142d919bdc58e0f7e132c2491e3", func := "terrier/terrierlaw5.PoolCrashes", spec := "poolCrashes", unfollowed := true, recurses := true, named := ["unicode/utf8.first", "unicode/utf8.acceptRanges"], apart := false, laid := [("unicode/utf8.acceptRanges", laid_unicode_utf8_acceptRanges), ("unicode/utf8.first", laid_unicode_utf8_first)], narrowed := true }
def PoolCrashesUptoSaid : Prop := poolCrashesUptoRow.holds Tryz.pinned (OpenSpec.upto poolCrashesSpec)

end Rows
end Go.Proofs.YtccmmnacejdeoaaGreatDoor
