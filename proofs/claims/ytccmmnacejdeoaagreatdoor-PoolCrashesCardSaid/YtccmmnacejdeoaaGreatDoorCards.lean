/-
  DERIVED. GIVEN WITH THE SEED: THE CARDS: each row of YtccmmnacejdeoaaGreatDoorRows.lean that lists a variable, with what it lists TIED to the program's text (the seventh form; the later family's looks); each row that meets fmt, with fmt's text TOLD by the authors' own Lean function (tested against real Go, not proved from fmt's source: count such statements apart). THE CARD IS WHAT COUNTS. Prove the row's statement (the work); the ties are given (YtccmmnacejdeoaaGreatDoorTie.lean); close each card by the builder's one call (the guide's Derived/Test/ToyasCard.lean, 'card_holds'). Laid BY PROGRAM, IN A SANDBOX (cutbox-door.mjs). By AI agents, Wed Nov 11 2026. No macro, syntax, notation, axiom, sorry.
-/
import Derived.Test.YtccmmnacejdeoaaGreatDoorRows
import GoSem.ClaimSeven
namespace Go.Proofs.YtccmmnacejdeoaaGreatDoor
namespace Rows

/-- THE TIED CARD OF 'terrierlaw5.PoolBounds'. -/
def poolBoundsCard : Claim7 := { stood := { row := poolBoundsRow, standIns := [], harness := (true, "4e7aac79c633a6987361411102b06c3c45077cfbacb3baa3714c6eabba029ff1"), looks := false }, kinds := [], alts := [], laidByText := true, laidKinds := [.data, .pinned], laidTests := true, laidLooks := .later }
def PoolBoundsCardSaid : Prop := Claim7.holds Tryz.pinned (.plain (OpenSpec.ofChange poolBoundsSpec)) poolBoundsCard

/-- THE TIED CARD OF 'terrierlaw5.PoolFrames'. -/
def poolFramesCard : Claim7 := { stood := { row := poolFramesRow, standIns := [], harness := (true, "4e7aac79c633a6987361411102b06c3c45077cfbacb3baa3714c6eabba029ff1"), looks := false }, kinds := [], alts := [], laidByText := true, laidKinds := [.data, .pinned], laidTests := true, laidLooks := .later }
def PoolFramesCardSaid : Prop := Claim7.holds Tryz.pinned (.plain (OpenSpec.ofChange poolFramesSpec)) poolFramesCard

/-- THE TIED CARD OF 'terrierlaw5.PoolCrashes'. -/
def poolCrashesCard : Claim7 := { stood := { row := poolCrashesRow, standIns := [], harness := (true, "4e7aac79c633a6987361411102b06c3c45077cfbacb3baa3714c6eabba029ff1"), looks := false }, kinds := [], alts := [], laidByText := true, laidKinds := [.data, .pinned], laidTests := true, laidLooks := .later }
def PoolCrashesCardSaid : Prop := Claim7.holds Tryz.pinned (.plain (OpenSpec.ofChange poolCrashesSpec)) poolCrashesCard

/-- THE SECOND FORM's CARD OF 'terrierlaw5.PoolBounds'. -/
def poolBoundsUptoCard : Claim7 := { stood := { row := poolBoundsUptoRow, standIns := [], harness := (true, "4e7aac79c633a6987361411102b06c3c45077cfbacb3baa3714c6eabba029ff1"), looks := false }, kinds := [], alts := [], laidByText := true, laidKinds := [.data, .pinned], laidTests := true, laidLooks := .later }
def PoolBoundsUptoCardSaid : Prop := Claim7.holds Tryz.pinned (.plain (OpenSpec.upto poolBoundsSpec)) poolBoundsUptoCard

/-- THE SECOND FORM's CARD OF 'terrierlaw5.PoolFrames'. -/
def poolFramesUptoCard : Claim7 := { stood := { row := poolFramesUptoRow, standIns := [], harness := (true, "4e7aac79c633a6987361411102b06c3c45077cfbacb3baa3714c6eabba029ff1"), looks := false }, kinds := [], alts := [], laidByText := true, laidKinds := [.data, .pinned], laidTests := true, laidLooks := .later }
def PoolFramesUptoCardSaid : Prop := Claim7.holds Tryz.pinned (.plain (OpenSpec.upto poolFramesSpec)) poolFramesUptoCard

/-- THE SECOND FORM's CARD OF 'terrierlaw5.PoolCrashes'. -/
def poolCrashesUptoCard : Claim7 := { stood := { row := poolCrashesUptoRow, standIns := [], harness := (true, "4e7aac79c633a6987361411102b06c3c45077cfbacb3baa3714c6eabba029ff1"), looks := false }, kinds := [], alts := [], laidByText := true, laidKinds := [.data, .pinned], laidTests := true, laidLooks := .later }
def PoolCrashesUptoCardSaid : Prop := Claim7.holds Tryz.pinned (.plain (OpenSpec.upto poolCrashesSpec)) poolCrashesUptoCard
end Rows
end Go.Proofs.YtccmmnacejdeoaaGreatDoor
