/-
  DERIVED. GIVEN WITH THE SEED: THE CARDS: each row of YtidohbhcjnmmeaaDoorRows.lean that lists a variable, with what it lists TIED to the program's text (the seventh form; the later family's looks); each row that meets fmt, with fmt's text TOLD by the authors' own Lean function (tested against real Go, not proved from fmt's source: count such statements apart). THE CARD IS WHAT COUNTS. Prove the row's statement (the work); the ties are given (YtidohbhcjnmmeaaDoorTie.lean); close each card by the builder's one call (the guide's Derived/Test/ToyasCard.lean, 'card_holds'). Laid BY PROGRAM, IN A SANDBOX (cutbox-door.mjs). By AI agents, Wed Nov 11 2026. No macro, syntax, notation, axiom, sorry.
-/
import Derived.Test.YtidohbhcjnmmeaaDoorRows
import GoSem.ClaimSeven
namespace Go.Proofs.YtidohbhcjnmmeaaDoor
namespace Rows

/-- THE TIED CARD OF 'terrierlaw23.CmdWords'. -/
def cmdWordsCard : Claim7 := { stood := { row := cmdWordsRow, standIns := [], harness := (true, "25bec08873b8e236e8236fc55e54a69844d4db333e171557609e4a519da63db8"), looks := true }, kinds := [], alts := [], laidByText := true, laidKinds := [.data, .data, .data, .data, .sentinel, .sentinel, .pinned], laidTests := true, laidLooks := .later }
def CmdWordsCardSaid : Prop := Claim7.holds Tryd.pinned (.plain (OpenSpec.ofChange cmdWordsSpec)) cmdWordsCard

/-- THE TIED CARD OF 'terrierlaw23.CmdParses'. -/
def cmdParsesCard : Claim7 := { stood := { row := cmdParsesRow, standIns := [], harness := (true, "25bec08873b8e236e8236fc55e54a69844d4db333e171557609e4a519da63db8"), looks := true }, kinds := [], alts := [], laidByText := true, laidKinds := [.data, .data, .data, .data, .sentinel, .sentinel, .pinned], laidTests := true, laidLooks := .later }
def CmdParsesCardSaid : Prop := Claim7.holds Tryd.pinned (.plain (OpenSpec.ofChange cmdParsesSpec)) cmdParsesCard

/-- THE TIED CARD OF 'terrierlaw23.CmdTexts'. -/
def cmdTextsCard : Claim7 := { stood := { row := cmdTextsRow, standIns := [], harness := (true, "25bec08873b8e236e8236fc55e54a69844d4db333e171557609e4a519da63db8"), looks := true }, kinds := [], alts := [], laidByText := true, laidKinds := [.data, .data, .data, .data, .sentinel, .sentinel, .pinned], laidTests := true, laidLooks := .later }
def CmdTextsCardSaid : Prop := Claim7.holds Tryd.pinned (.plain (OpenSpec.ofChange cmdTextsSpec)) cmdTextsCard

/-- THE TIED CARD OF 'terrierlaw23.CmdNumbers'. -/
def cmdNumbersCard : Claim7 := { stood := { row := cmdNumbersRow, standIns := [], harness := (true, "25bec08873b8e236e8236fc55e54a69844d4db333e171557609e4a519da63db8"), looks := true }, kinds := [], alts := [], laidByText := true, laidKinds := [.data, .data, .data, .data, .sentinel, .sentinel, .pinned], laidTests := true, laidLooks := .later }
def CmdNumbersCardSaid : Prop := Claim7.holds Tryd.pinned (.plain (OpenSpec.ofChange cmdNumbersSpec)) cmdNumbersCard

/-- THE SECOND FORM's CARD OF 'terrierlaw23.CmdWords'. -/
def cmdWordsUptoCard : Claim7 := { stood := { row := cmdWordsUptoRow, standIns := [], harness := (true, "25bec08873b8e236e8236fc55e54a69844d4db333e171557609e4a519da63db8"), looks := true }, kinds := [], alts := [], laidByText := true, laidKinds := [.data, .data, .data, .data, .sentinel, .sentinel, .pinned], laidTests := true, laidLooks := .later }
def CmdWordsUptoCardSaid : Prop := Claim7.holds Tryd.pinned (.plain (OpenSpec.upto cmdWordsSpec)) cmdWordsUptoCard

/-- THE SECOND FORM's CARD OF 'terrierlaw23.CmdParses'. -/
def cmdParsesUptoCard : Claim7 := { stood := { row := cmdParsesUptoRow, standIns := [], harness := (true, "25bec08873b8e236e8236fc55e54a69844d4db333e171557609e4a519da63db8"), looks := true }, kinds := [], alts := [], laidByText := true, laidKinds := [.data, .data, .data, .data, .sentinel, .sentinel, .pinned], laidTests := true, laidLooks := .later }
def CmdParsesUptoCardSaid : Prop := Claim7.holds Tryd.pinned (.plain (OpenSpec.upto cmdParsesSpec)) cmdParsesUptoCard

/-- THE SECOND FORM's CARD OF 'terrierlaw23.CmdTexts'. -/
def cmdTextsUptoCard : Claim7 := { stood := { row := cmdTextsUptoRow, standIns := [], harness := (true, "25bec08873b8e236e8236fc55e54a69844d4db333e171557609e4a519da63db8"), looks := true }, kinds := [], alts := [], laidByText := true, laidKinds := [.data, .data, .data, .data, .sentinel, .sentinel, .pinned], laidTests := true, laidLooks := .later }
def CmdTextsUptoCardSaid : Prop := Claim7.holds Tryd.pinned (.plain (OpenSpec.upto cmdTextsSpec)) cmdTextsUptoCard

/-- THE SECOND FORM's CARD OF 'terrierlaw23.CmdNumbers'. -/
def cmdNumbersUptoCard : Claim7 := { stood := { row := cmdNumbersUptoRow, standIns := [], harness := (true, "25bec08873b8e236e8236fc55e54a69844d4db333e171557609e4a519da63db8"), looks := true }, kinds := [], alts := [], laidByText := true, laidKinds := [.data, .data, .data, .data, .sentinel, .sentinel, .pinned], laidTests := true, laidLooks := .later }
def CmdNumbersUptoCardSaid : Prop := Claim7.holds Tryd.pinned (.plain (OpenSpec.upto cmdNumbersSpec)) cmdNumbersUptoCard
end Rows
end Go.Proofs.YtidohbhcjnmmeaaDoor
