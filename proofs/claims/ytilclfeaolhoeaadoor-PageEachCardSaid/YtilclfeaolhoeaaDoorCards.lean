/-
  DERIVED. GIVEN WITH THE SEED: THE CARDS: each row of YtilclfeaolhoeaaDoorRows.lean that lists a variable, with what it lists TIED to the program's text (the seventh form; the later family's looks); each row that meets fmt, with fmt's text TOLD by the authors' own Lean function (tested against real Go, not proved from fmt's source: count such statements apart). THE CARD IS WHAT COUNTS. Prove the row's statement (the work); the ties are given (YtilclfeaolhoeaaDoorTie.lean); close each card by the builder's one call (the guide's Derived/Test/ToyasCard.lean, 'card_holds'). Laid BY PROGRAM, IN A SANDBOX (cutbox-door.mjs). By AI agents, Wed Nov 11 2026. No macro, syntax, notation, axiom, sorry.
-/
import Derived.Test.YtilclfeaolhoeaaDoorRows
import GoSem.ClaimSeven
namespace Go.Proofs.YtilclfeaolhoeaaDoor
namespace Rows

/-- THE TIED CARD OF 'terrierlaw3.PageAgain'. -/
def pageAgainCard : Claim7 := { stood := { row := pageAgainRow, standIns := [], harness := (true, "5d65c74977f752287ba77d96f722a7c36e4e34468e613553e2e95362f9c4158e"), looks := false }, kinds := [], alts := [], laidByText := true, laidKinds := [.data, .pinned], laidTests := true, laidLooks := .later }
def PageAgainCardSaid : Prop := Claim7.holds Tryd.pinned (.plain (OpenSpec.ofChange pageAgainSpec)) pageAgainCard

/-- THE TIED CARD OF 'terrierlaw3.PageEach'. -/
def pageEachCard : Claim7 := { stood := { row := pageEachRow, standIns := [], harness := (true, "5d65c74977f752287ba77d96f722a7c36e4e34468e613553e2e95362f9c4158e"), looks := false }, kinds := [], alts := [], laidByText := true, laidKinds := [.data, .pinned], laidTests := true, laidLooks := .later }
def PageEachCardSaid : Prop := Claim7.holds Tryd.pinned (.plain (OpenSpec.ofChange pageEachSpec)) pageEachCard

/-- THE SECOND FORM's CARD OF 'terrierlaw3.PageAgain'. -/
def pageAgainUptoCard : Claim7 := { stood := { row := pageAgainUptoRow, standIns := [], harness := (true, "5d65c74977f752287ba77d96f722a7c36e4e34468e613553e2e95362f9c4158e"), looks := false }, kinds := [], alts := [], laidByText := true, laidKinds := [.data, .pinned], laidTests := true, laidLooks := .later }
def PageAgainUptoCardSaid : Prop := Claim7.holds Tryd.pinned (.plain (OpenSpec.upto pageAgainSpec)) pageAgainUptoCard

/-- THE SECOND FORM's CARD OF 'terrierlaw3.PageEach'. -/
def pageEachUptoCard : Claim7 := { stood := { row := pageEachUptoRow, standIns := [], harness := (true, "5d65c74977f752287ba77d96f722a7c36e4e34468e613553e2e95362f9c4158e"), looks := false }, kinds := [], alts := [], laidByText := true, laidKinds := [.data, .pinned], laidTests := true, laidLooks := .later }
def PageEachUptoCardSaid : Prop := Claim7.holds Tryd.pinned (.plain (OpenSpec.upto pageEachSpec)) pageEachUptoCard
end Rows
end Go.Proofs.YtilclfeaolhoeaaDoor
