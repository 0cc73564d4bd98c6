/-
  DERIVED. GIVEN WITH THE SEED: THE CARDS: each row of YtofabaeadnljbaaDoorRows.lean that lists a variable, with what it lists TIED to the program's text (the seventh form; the later family's looks); each row that meets fmt, with fmt's text TOLD by the authors' own Lean function (tested against real Go, not proved from fmt's source: count such statements apart). THE CARD IS WHAT COUNTS. Prove the row's statement (the work); the ties are given (YtofabaeadnljbaaDoorTie.lean); close each card by the builder's one call (the guide's Derived/Test/ToyasCard.lean, 'card_holds'). Laid BY PROGRAM, IN A SANDBOX (cutbox-door.mjs). By AI agents, Wed Nov 11 2026. No macro, syntax, notation, axiom, sorry.
-/
import Derived.Test.YtofabaeadnljbaaDoorRows
import GoSem.ClaimSeven
namespace Go.Proofs.YtofabaeadnljbaaDoor
namespace Rows

/-- THE TIED CARD OF 'terrierlaw21.RecNodes'. -/
def recNodesCard : Claim7 := { stood := { row := recNodesRow, standIns := [], harness := (true, "fb1440dd52841b5b5607c21da09280a84ac1b3a0fde4c43e751a996375fa8a36"), looks := false }, kinds := [], alts := [], laidByText := true, laidKinds := [.data, .data, .data], laidTests := true, laidLooks := .later }
def RecNodesCardSaid : Prop := Claim7.holds Tryd.pinned (.plain (OpenSpec.ofChange recNodesSpec)) recNodesCard

/-- THE TIED CARD OF 'terrierlaw21.RecCuts'. -/
def recCutsCard : Claim7 := { stood := { row := recCutsRow, standIns := [], harness := (true, "fb1440dd52841b5b5607c21da09280a84ac1b3a0fde4c43e751a996375fa8a36"), looks := false }, kinds := [], alts := [], laidByText := true, laidKinds := [.data, .data, .data], laidTests := true, laidLooks := .later }
def RecCutsCardSaid : Prop := Claim7.holds Tryd.pinned (.plain (OpenSpec.ofChange recCutsSpec)) recCutsCard

/-- THE TIED CARD OF 'terrierlaw21.RecEdges'. -/
def recEdgesCard : Claim7 := { stood := { row := recEdgesRow, standIns := [], harness := (true, "fb1440dd52841b5b5607c21da09280a84ac1b3a0fde4c43e751a996375fa8a36"), looks := false }, kinds := [], alts := [], laidByText := true, laidKinds := [.data, .data, .data], laidTests := true, laidLooks := .later }
def RecEdgesCardSaid : Prop := Claim7.holds Tryd.pinned (.plain (OpenSpec.ofChange recEdgesSpec)) recEdgesCard

/-- THE TIED CARD OF 'terrierlaw21.RecHostile'. -/
def recHostileCard : Claim7 := { stood := { row := recHostileRow, standIns := [], harness := (true, "fb1440dd52841b5b5607c21da09280a84ac1b3a0fde4c43e751a996375fa8a36"), looks := false }, kinds := [], alts := [], laidByText := true, laidKinds := [.data, .data, .data], laidTests := true, laidLooks := .later }
def RecHostileCardSaid : Prop := Claim7.holds Tryd.pinned (.plain (OpenSpec.ofChange recHostileSpec)) recHostileCard

/-- THE SECOND FORM's CARD OF 'terrierlaw21.RecNodes'. -/
def recNodesUptoCard : Claim7 := { stood := { row := recNodesUptoRow, standIns := [], harness := (true, "fb1440dd52841b5b5607c21da09280a84ac1b3a0fde4c43e751a996375fa8a36"), looks := false }, kinds := [], alts := [], laidByText := true, laidKinds := [.data, .data, .data], laidTests := true, laidLooks := .later }
def RecNodesUptoCardSaid : Prop := Claim7.holds Tryd.pinned (.plain (OpenSpec.upto recNodesSpec)) recNodesUptoCard

/-- THE SECOND FORM's CARD OF 'terrierlaw21.RecCuts'. -/
def recCutsUptoCard : Claim7 := { stood := { row := recCutsUptoRow, standIns := [], harness := (true, "fb1440dd52841b5b5607c21da09280a84ac1b3a0fde4c43e751a996375fa8a36"), looks := false }, kinds := [], alts := [], laidByText := true, laidKinds := [.data, .data, .data], laidTests := true, laidLooks := .later }
def RecCutsUptoCardSaid : Prop := Claim7.holds Tryd.pinned (.plain (OpenSpec.upto recCutsSpec)) recCutsUptoCard

/-- THE SECOND FORM's CARD OF 'terrierlaw21.RecEdges'. -/
def recEdgesUptoCard : Claim7 := { stood := { row := recEdgesUptoRow, standIns := [], harness := (true, "fb1440dd52841b5b5607c21da09280a84ac1b3a0fde4c43e751a996375fa8a36"), looks := false }, kinds := [], alts := [], laidByText := true, laidKinds := [.data, .data, .data], laidTests := true, laidLooks := .later }
def RecEdgesUptoCardSaid : Prop := Claim7.holds Tryd.pinned (.plain (OpenSpec.upto recEdgesSpec)) recEdgesUptoCard

/-- THE SECOND FORM's CARD OF 'terrierlaw21.RecHostile'. -/
def recHostileUptoCard : Claim7 := { stood := { row := recHostileUptoRow, standIns := [], harness := (true, "fb1440dd52841b5b5607c21da09280a84ac1b3a0fde4c43e751a996375fa8a36"), looks := false }, kinds := [], alts := [], laidByText := true, laidKinds := [.data, .data, .data], laidTests := true, laidLooks := .later }
def RecHostileUptoCardSaid : Prop := Claim7.holds Tryd.pinned (.plain (OpenSpec.upto recHostileSpec)) recHostileUptoCard
end Rows
end Go.Proofs.YtofabaeadnljbaaDoor
