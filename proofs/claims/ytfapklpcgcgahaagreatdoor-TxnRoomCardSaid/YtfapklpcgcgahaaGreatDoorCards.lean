/-
  DERIVED. GIVEN WITH THE SEED: THE CARDS: each row of YtfapklpcgcgahaaGreatDoorRows.lean that lists a variable, with what it lists TIED to the program's text (the seventh form; the later family's looks); each row that meets fmt, with fmt's text TOLD by the authors' own Lean function (tested against real Go, not proved from fmt's source: count such statements apart). THE CARD IS WHAT COUNTS. Prove the row's statement (the work); the ties are given (YtfapklpcgcgahaaGreatDoorTie.lean); close each card by the builder's one call (the guide's Derived/Test/ToyasCard.lean, 'card_holds'). Laid BY PROGRAM, IN A SANDBOX (cutbox-door.mjs). By AI agents, Wed Nov 11 2026. No macro, syntax, notation, axiom, sorry.
-/
import Derived.Test.YtfapklpcgcgahaaGreatDoorRows
import GoSem.ClaimSeven
namespace Go.Proofs.YtfapklpcgcgahaaGreatDoor
namespace Rows

/-- THE TIED CARD OF 'terrierlaw6.TxnBounds'. -/
def txnBoundsCard : Claim7 := { stood := { row := txnBoundsRow, standIns := [], harness := (true, "5bc9f3da774a0ab387901839526aa504945b8550243fcbc81f80b3c1ee6712c2"), looks := false }, kinds := [], alts := [], laidByText := true, laidKinds := [.data, .pinned], laidTests := true, laidLooks := .later }
def TxnBoundsCardSaid : Prop := Claim7.holds Tryz.pinned (.plain (OpenSpec.ofChange txnBoundsSpec)) txnBoundsCard

/-- THE TIED CARD OF 'terrierlaw6.TxnRoom'. -/
def txnRoomCard : Claim7 := { stood := { row := txnRoomRow, standIns := [], harness := (true, "5bc9f3da774a0ab387901839526aa504945b8550243fcbc81f80b3c1ee6712c2"), looks := false }, kinds := [], alts := [], laidByText := true, laidKinds := [.data, .pinned], laidTests := true, laidLooks := .later }
def TxnRoomCardSaid : Prop := Claim7.holds Tryz.pinned (.plain (OpenSpec.ofChange txnRoomSpec)) txnRoomCard

/-- THE TIED CARD OF 'terrierlaw6.TxnUndone'. -/
def txnUndoneCard : Claim7 := { stood := { row := txnUndoneRow, standIns := [], harness := (true, "5bc9f3da774a0ab387901839526aa504945b8550243fcbc81f80b3c1ee6712c2"), looks := false }, kinds := [], alts := [], laidByText := true, laidKinds := [.data, .pinned], laidTests := true, laidLooks := .later }
def TxnUndoneCardSaid : Prop := Claim7.holds Tryz.pinned (.plain (OpenSpec.ofChange txnUndoneSpec)) txnUndoneCard

/-- THE TIED CARD OF 'terrierlaw6.TxnSaves'. -/
def txnSavesCard : Claim7 := { stood := { row := txnSavesRow, standIns := [], harness := (true, "5bc9f3da774a0ab387901839526aa504945b8550243fcbc81f80b3c1ee6712c2"), looks := false }, kinds := [], alts := [], laidByText := true, laidKinds := [.data, .pinned], laidTests := true, laidLooks := .later }
def TxnSavesCardSaid : Prop := Claim7.holds Tryz.pinned (.plain (OpenSpec.ofChange txnSavesSpec)) txnSavesCard

/-- THE TIED CARD OF 'terrierlaw6.TxnOver'. -/
def txnOverCard : Claim7 := { stood := { row := txnOverRow, standIns := [], harness := (true, "5bc9f3da774a0ab387901839526aa504945b8550243fcbc81f80b3c1ee6712c2"), looks := false }, kinds := [], alts := [], laidByText := true, laidKinds := [.data, .pinned], laidTests := true, laidLooks := .later }
def TxnOverCardSaid : Prop := Claim7.holds Tryz.pinned (.plain (OpenSpec.ofChange txnOverSpec)) txnOverCard

/-- THE TIED CARD OF 'terrierlaw6.TxnEach'. -/
def txnEachCard : Claim7 := { stood := { row := txnEachRow, standIns := [], harness := (true, "5bc9f3da774a0ab387901839526aa504945b8550243fcbc81f80b3c1ee6712c2"), looks := false }, kinds := [], alts := [], laidByText := true, laidKinds := [.data, .pinned], laidTests := true, laidLooks := .later }
def TxnEachCardSaid : Prop := Claim7.holds Tryz.pinned (.plain (OpenSpec.ofChange txnEachSpec)) txnEachCard

/-- THE TIED CARD OF 'terrierlaw6.TxnPlays'. -/
def txnPlaysCard : Claim7 := { stood := { row := txnPlaysRow, standIns := [], harness := (true, "5bc9f3da774a0ab387901839526aa504945b8550243fcbc81f80b3c1ee6712c2"), looks := false }, kinds := [], alts := [], laidByText := true, laidKinds := [.data, .pinned], laidTests := true, laidLooks := .later }
def TxnPlaysCardSaid : Prop := Claim7.holds Tryz.pinned (.plain (OpenSpec.ofChange txnPlaysSpec)) txnPlaysCard

/-- THE SECOND FORM's CARD OF 'terrierlaw6.TxnBounds'. -/
def txnBoundsUptoCard : Claim7 := { stood := { row := txnBoundsUptoRow, standIns := [], harness := (true, "5bc9f3da774a0ab387901839526aa504945b8550243fcbc81f80b3c1ee6712c2"), looks := false }, kinds := [], alts := [], laidByText := true, laidKinds := [.data, .pinned], laidTests := true, laidLooks := .later }
def TxnBoundsUptoCardSaid : Prop := Claim7.holds Tryz.pinned (.plain (OpenSpec.upto txnBoundsSpec)) txnBoundsUptoCard

/-- THE SECOND FORM's CARD OF 'terrierlaw6.TxnRoom'. -/
def txnRoomUptoCard : Claim7 := { stood := { row := txnRoomUptoRow, standIns := [], harness := (true, "5bc9f3da774a0ab387901839526aa504945b8550243fcbc81f80b3c1ee6712c2"), looks := false }, kinds := [], alts := [], laidByText := true, laidKinds := [.data, .pinned], laidTests := true, laidLooks := .later }
def TxnRoomUptoCardSaid : Prop := Claim7.holds Tryz.pinned (.plain (OpenSpec.upto txnRoomSpec)) txnRoomUptoCard

/-- THE SECOND FORM's CARD OF 'terrierlaw6.TxnUndone'. -/
def txnUndoneUptoCard : Claim7 := { stood := { row := txnUndoneUptoRow, standIns := [], harness := (true, "5bc9f3da774a0ab387901839526aa504945b8550243fcbc81f80b3c1ee6712c2"), looks := false }, kinds := [], alts := [], laidByText := true, laidKinds := [.data, .pinned], laidTests := true, laidLooks := .later }
def TxnUndoneUptoCardSaid : Prop := Claim7.holds Tryz.pinned (.plain (OpenSpec.upto txnUndoneSpec)) txnUndoneUptoCard

/-- THE SECOND FORM's CARD OF 'terrierlaw6.TxnSaves'. -/
def txnSavesUptoCard : Claim7 := { stood := { row := txnSavesUptoRow, standIns := [], harness := (true, "5bc9f3da774a0ab387901839526aa504945b8550243fcbc81f80b3c1ee6712c2"), looks := false }, kinds := [], alts := [], laidByText := true, laidKinds := [.data, .pinned], laidTests := true, laidLooks := .later }
def TxnSavesUptoCardSaid : Prop := Claim7.holds Tryz.pinned (.plain (OpenSpec.upto txnSavesSpec)) txnSavesUptoCard

/-- THE SECOND FORM's CARD OF 'terrierlaw6.TxnOver'. -/
def txnOverUptoCard : Claim7 := { stood := { row := txnOverUptoRow, standIns := [], harness := (true, "5bc9f3da774a0ab387901839526aa504945b8550243fcbc81f80b3c1ee6712c2"), looks := false }, kinds := [], alts := [], laidByText := true, laidKinds := [.data, .pinned], laidTests := true, laidLooks := .later }
def TxnOverUptoCardSaid : Prop := Claim7.holds Tryz.pinned (.plain (OpenSpec.upto txnOverSpec)) txnOverUptoCard

/-- THE SECOND FORM's CARD OF 'terrierlaw6.TxnEach'. -/
def txnEachUptoCard : Claim7 := { stood := { row := txnEachUptoRow, standIns := [], harness := (true, "5bc9f3da774a0ab387901839526aa504945b8550243fcbc81f80b3c1ee6712c2"), looks := false }, kinds := [], alts := [], laidByText := true, laidKinds := [.data, .pinned], laidTests := true, laidLooks := .later }
def TxnEachUptoCardSaid : Prop := Claim7.holds Tryz.pinned (.plain (OpenSpec.upto txnEachSpec)) txnEachUptoCard

/-- THE SECOND FORM's CARD OF 'terrierlaw6.TxnPlays'. -/
def txnPlaysUptoCard : Claim7 := { stood := { row := txnPlaysUptoRow, standIns := [], harness := (true, "5bc9f3da774a0ab387901839526aa504945b8550243fcbc81f80b3c1ee6712c2"), looks := false }, kinds := [], alts := [], laidByText := true, laidKinds := [.data, .pinned], laidTests := true, laidLooks := .later }
def TxnPlaysUptoCardSaid : Prop := Claim7.holds Tryz.pinned (.plain (OpenSpec.upto txnPlaysSpec)) txnPlaysUptoCard
end Rows
end Go.Proofs.YtfapklpcgcgahaaGreatDoor
