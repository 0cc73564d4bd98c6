/-
  NARROWER THAN 'FOR EVERY INPUT', by the rows' own cells (each row's printed sentence says how): TxnBounds: laid · TxnRoom: laid · TxnUndone: laid · TxnSaves: laid · TxnOver: laid · TxnEach: laid · TxnPlays: laid.
  DERIVED. THE GIVEN ROWS OF THIS SEAT. 7 by the template 'for every input the law returns true; each argument reads behind the call as it read before'; 0 by the template 'total and deterministic' (their statements: YtfapklpcgcgahaaGreatDoorTotals.lean).
  GIVEN WITH THE SEED: the statements are not yours to turn. If you find one false, say at which input.
  Laid BY PROGRAM, IN A SANDBOX (cutbox-rows.mjs): the forced cells as the released guide's own fill.sh prints them over the translation 8e953edf03c191eb… (all of the seat's roots in one cut). By AI agents, Wed Nov 11 2026. No macro, syntax, notation, axiom, sorry.
-/
import Derived.Test.YtfapklpcgcgahaaGreatDoorChecked
import GoSem.PinnedTables
import GoSem.Claim
import GoSem.ClaimJoined
import GoSem.ClaimMapViews
import Derived.JoinedTies
import Derived.KernelRfl
namespace Go.Proofs.YtfapklpcgcgahaaGreatDoor
/- THE CELL 'sum', in the pinned program and in every row, IS THE sha256 OF THE DUMP (.gsa) THAT YtfapklpcgcgahaaGreatDoorProg.lean LOADS. Nothing in Lean hashes anything: it is a label: what it is worth is what the hold of that sum in a sandbox is worth. -/
noncomputable def Tryz.pinned : Pinned := { name := "ytfapklpcgcgahaagreatdoor", sum := "8e953edf03c191eb9ce3787046ec8f7736dd7377f8b2f1801236f8f98885d768", checked := Tryz.checked }
namespace Rows
def none {H : Type} : Left H := { results := [], args := [] }

/- WHAT THE LISTED PACKAGE-LEVEL VARIABLES READ AS WHEN THE CALL BEGINS. Each datum BY PROGRAM (the guide's laid-datum.mjs) off the statement by which the dump's own 'gosem.cut.vars' lays the variable. In a bare row this is a premise. The card (YtfapklpcgcgahaaGreatDoorCards.lean) ties it to the program's text. -/
def laid_unicode_utf8_acceptRanges {H : Type} : DataW H := .agg [.agg [.lit (.int .u8 128), .lit (.int .u8 191)], .agg [.lit (.int .u8 160), .lit (.int .u8 191)], .agg [.lit (.int .u8 128), .lit (.int .u8 159)], .agg [.lit (.int .u8 144), .lit (.int .u8 191)], .agg [.lit (.int .u8 128), .lit (.int .u8 143)], .agg [.lit (.int .u8 0), .lit (.int .u8 0)], .agg [.lit (.int .u8 0), .lit (.int .u8 0)], .agg [.lit (.int .u8 0), .lit (.int .u8 0)], .agg [.lit (.int .u8 0), .lit (.int .u8 0)], .agg [.lit (.int .u8 0), .lit (.int .u8 0)], .agg [.lit (.int .u8 0), .lit (.int .u8 0)], .agg [.lit (.int .u8 0), .lit (.int .u8 0)], .agg [.lit (.int .u8 0), .lit (.int .u8 0)], .agg [.lit (.int .u8 0), .lit (.int .u8 0)], .agg [.lit (.int .u8 0), .lit (.int .u8 0)], .agg [.lit (.int .u8 0), .lit (.int .u8 0)]]
/-- One of Go's own tables, pinned by name: the form's constant. -/
def laid_unicode_utf8_first : DataW Unit := Go.Pinned.utf8First

/-- 'terrierlaw6.TxnBounds': WHATEVER THE INPUT: true; the input reads as it did. -/
def txnBoundsSpec : ChangeSpec := { name := "txnBounds", fn := fun _ => fun
  | [d1, d2, d3] => { results := [.lit (.bool true)], args := [d1, d2, d3] }
  | _ => none }
def txnBoundsRow : OpenClaim := { program := "ytfapklpcgcgahaagreatdoor", sum := "8e953edf03c191eb9ce3787046ec8f7736dd7377f8b2f1801236f8f98885d768", func := "terrier/terrierlaw6.TxnBounds", spec := "txnBounds", unfollowed := true, recurses := true, named := ["unicode/utf8.first", "unicode/utf8.acceptRanges"], apart := false, laid := [("unicode/utf8.acceptRanges", laid_unicode_utf8_acceptRanges), ("unicode/utf8.first", laid_unicode_utf8_first)] }
def TxnBoundsSaid : Prop := txnBoundsRow.holds Tryz.pinned (OpenSpec.ofChange txnBoundsSpec)

/-- ITS FALSE NEIGHBOUR: 'it returns false'. Refute it at one input. -/
def txnBoundsWrong : ChangeSpec := { name := "txnBounds", fn := fun _ => fun
  | [d1, d2, d3] => { results := [.lit (.bool false)], args := [d1, d2, d3] }
  | _ => none }
def TxnBoundsWrongFalsely : Prop := txnBoundsRow.holds Tryz.pinned (OpenSpec.ofChange txnBoundsWrong)

/-- 'terrierlaw6.TxnRoom': WHATEVER THE INPUT: true; the input reads as it did. -/
def txnRoomSpec : ChangeSpec := { name := "txnRoom", fn := fun _ => fun
  | [d1, d2, d3] => { results := [.lit (.bool true)], args := [d1, d2, d3] }
  | _ => none }
def txnRoomRow : OpenClaim := { program := "ytfapklpcgcgahaagreatdoor", sum := "8e953edf03c191eb9ce3787046ec8f7736dd7377f8b2f1801236f8f98885d768", func := "terrier/terrierlaw6.TxnRoom", spec := "txnRoom", unfollowed := true, recurses := true, named := ["unicode/utf8.first", "unicode/utf8.acceptRanges"], apart := false, laid := [("unicode/utf8.acceptRanges", laid_unicode_utf8_acceptRanges), ("unicode/utf8.first", laid_unicode_utf8_first)] }
def TxnRoomSaid : Prop := txnRoomRow.holds Tryz.pinned (OpenSpec.ofChange txnRoomSpec)

/-- ITS FALSE NEIGHBOUR: 'it returns false'. Refute it at one input. -/
def txnRoomWrong : ChangeSpec := { name := "txnRoom", fn := fun _ => fun
  | [d1, d2, d3] => { results := [.lit (.bool false)], args := [d1, d2, d3] }
  | _ => none }
def TxnRoomWrongFalsely : Prop := txnRoomRow.holds Tryz.pinned (OpenSpec.ofChange txnRoomWrong)

/-- 'terrierlaw6.TxnUndone': WHATEVER THE INPUT: true; the input reads as it did. -/
def txnUndoneSpec : ChangeSpec := { name := "txnUndone", fn := fun _ => fun
  | [d1, d2, d3] => { results := [.lit (.bool true)], args := [d1, d2, d3] }
  | _ => none }
def txnUndoneRow : OpenClaim := { program := "ytfapklpcgcgahaagreatdoor", sum := "8e953edf03c191eb9ce3787046ec8f7736dd7377f8b2f1801236f8f98885d768", func := "terrier/terrierlaw6.TxnUndone", spec := "txnUndone", unfollowed := true, recurses := true, named := ["unicode/utf8.first", "unicode/utf8.acceptRanges"], apart := false, laid := [("unicode/utf8.acceptRanges", laid_unicode_utf8_acceptRanges), ("unicode/utf8.first", laid_unicode_utf8_first)] }
def TxnUndoneSaid : Prop := txnUndoneRow.holds Tryz.pinned (OpenSpec.ofChange txnUndoneSpec)

/-- ITS FALSE NEIGHBOUR: 'it returns false'. Refute it at one input. -/
def txnUndoneWrong : ChangeSpec := { name := "txnUndone", fn := fun _ => fun
  | [d1, d2, d3] => { results := [.lit (.bool false)], args := [d1, d2, d3] }
  | _ => none }
def TxnUndoneWrongFalsely : Prop := txnUndoneRow.holds Tryz.pinned (OpenSpec.ofChange txnUndoneWrong)

/-- 'terrierlaw6.TxnSaves': WHATEVER THE INPUT: true; the input reads as it did. -/
def txnSavesSpec : ChangeSpec := { name := "txnSaves", fn := fun _ => fun
  | [d1, d2] => { results := [.lit (.bool true)], args := [d1, d2] }
  | _ => none }
def txnSavesRow : OpenClaim := { program := "ytfapklpcgcgahaagreatdoor", sum := "8e953edf03c191eb9ce3787046ec8f7736dd7377f8b2f1801236f8f98885d768", func := "terrier/terrierlaw6.TxnSaves", spec := "txnSaves", unfollowed := true, recurses := true, named := ["unicode/utf8.first", "unicode/utf8.acceptRanges"], apart := false, laid := [("unicode/utf8.acceptRanges", laid_unicode_utf8_acceptRanges), ("unicode/utf8.first", laid_unicode_utf8_first)] }
def TxnSavesSaid : Prop := txnSavesRow.holds Tryz.pinned (OpenSpec.ofChange txnSavesSpec)

/-- ITS FALSE NEIGHBOUR: 'it returns false'. Refute it at one input. -/
def txnSavesWrong : ChangeSpec := { name := "txnSaves", fn := fun _ => fun
  | [d1, d2] => { results := [.lit (.bool false)], args := [d1, d2] }
  | _ => none }
def TxnSavesWrongFalsely : Prop := txnSavesRow.holds Tryz.pinned (OpenSpec.ofChange txnSavesWrong)

/-- 'terrierlaw6.TxnOver': WHATEVER THE INPUT: true; the input reads as it did. -/
def txnOverSpec : ChangeSpec := { name := "txnOver", fn := fun _ => fun
  | [d1, d2] => { results := [.lit (.bool true)], args := [d1, d2] }
  | _ => none }
def txnOverRow : OpenClaim := { program := "ytfapklpcgcgahaagreatdoor", sum := "8e953edf03c191eb9ce3787046ec8f7736dd7377f8b2f1801236f8f98885d768", func := "terrier/terrierlaw6.TxnOver", spec := "txnOver", unfollowed := true, recurses := true, named := ["unicode/utf8.first", "unicode/utf8.acceptRanges"], apart := false, laid := [("unicode/utf8.acceptRanges", laid_unicode_utf8_acceptRanges), ("unicode/utf8.first", laid_unicode_utf8_first)] }
def TxnOverSaid : Prop := txnOverRow.holds Tryz.pinned (OpenSpec.ofChange txnOverSpec)

/-- ITS FALSE NEIGHBOUR: 'it returns false'. Refute it at one input. -/
def txnOverWrong : ChangeSpec := { name := "txnOver", fn := fun _ => fun
  | [d1, d2] => { results := [.lit (.bool false)], args := [d1, d2] }
  | _ => none }
def TxnOverWrongFalsely : Prop := txnOverRow.holds Tryz.pinned (OpenSpec.ofChange txnOverWrong)

/-- 'terrierlaw6.TxnEach': WHATEVER THE INPUT: true; the input reads as it did. -/
def txnEachSpec : ChangeSpec := { name := "txnEach", fn := fun _ => fun
  | [d1, d2, d3, d4, d5] => { results := [.lit (.bool true)], args := [d1, d2, d3, d4, d5] }
  | _ => none }
def txnEachRow : OpenClaim := { program := "ytfapklpcgcgahaagreatdoor", sum := "8e953edf03c191eb9ce3787046ec8f7736dd7377f8b2f1801236f8f98885d768", func := "terrier/terrierlaw6.TxnEach", spec := "txnEach", unfollowed := true, recurses := true, named := ["unicode/utf8.first", "unicode/utf8.acceptRanges"], apart := false, laid := [("unicode/utf8.acceptRanges", laid_unicode_utf8_acceptRanges), ("unicode/utf8.first", laid_unicode_utf8_first)] }
def TxnEachSaid : Prop := txnEachRow.holds Tryz.pinned (OpenSpec.ofChange txnEachSpec)

/-- ITS FALSE NEIGHBOUR: 'it returns false'. Refute it at one input. -/
def txnEachWrong : ChangeSpec := { name := "txnEach", fn := fun _ => fun
  | [d1, d2, d3, d4, d5] => { results := [.lit (.bool false)], args := [d1, d2, d3, d4, d5] }
  | _ => none }
def TxnEachWrongFalsely : Prop := txnEachRow.holds Tryz.pinned (OpenSpec.ofChange txnEachWrong)

/-- 'terrierlaw6.TxnPlays': WHATEVER THE INPUT: true; the input reads as it did. -/
def txnPlaysSpec : ChangeSpec := { name := "txnPlays", fn := fun _ => fun
  | [d1, d2, d3] => { results := [.lit (.bool true)], args := [d1, d2, d3] }
  | _ => none }
def txnPlaysRow : OpenClaim := { program := "ytfapklpcgcgahaagreatdoor", sum := "8e953edf03c191eb9ce3787046ec8f7736dd7377f8b2f1801236f8f98885d768", func := "terrier/terrierlaw6.TxnPlays", spec := "txnPlays", unfollowed := true, recurses := true, named := ["unicode/utf8.first", "unicode/utf8.acceptRanges"], apart := false, laid := [("unicode/utf8.acceptRanges", laid_unicode_utf8_acceptRanges), ("unicode/utf8.first", laid_unicode_utf8_first)] }
def TxnPlaysSaid : Prop := txnPlaysRow.holds Tryz.pinned (OpenSpec.ofChange txnPlaysSpec)

/-- ITS FALSE NEIGHBOUR: 'it returns false'. Refute it at one input. -/
def txnPlaysWrong : ChangeSpec := { name := "txnPlays", fn := fun _ => fun
  | [d1, d2, d3] => { results := [.lit (.bool false)], args := [d1, d2, d3] }
  | _ => none }
def TxnPlaysWrongFalsely : Prop := txnPlaysRow.holds Tryz.pinned (OpenSpec.ofChange txnPlaysWrong)

/- THE SECOND FORM. 'bulk': how many values and letters a reading holds, each counted each time it is reached (what is shared counts as often as it is met; a slice's spare places count too). A statement '..UptoSaid' is the law's where the arguments, and the package variables that the reading takes, are together of bulk at most 1048576: NARROWER than '..Said'. Prove '..Said' where nothing that the law and all that it calls make is longer than what came in: it says more and counts as full. Else prove '..UptoSaid'. A law counts once. -/
mutual
def uptoBulk {H : Type} : DataW H → Nat
  | .lit (.string bytes) => bytes.length + 1
  | .lit _ => 1
  | .nil => 1
  | .ptr d => uptoBulk d + 1
  | .slice elems spare => uptoBulkAll elems + uptoBulkAll spare + 1
  | .agg parts => uptoBulkAll parts + 1
  | .iface _ d => uptoBulk d + 1
  | .map entries => uptoBulkEntries entries + 1
  | .held _ => 1
def uptoBulkAll {H : Type} : List (DataW H) → Nat
  | [] => 0
  | d :: r => uptoBulk d + uptoBulkAll r
def uptoBulkEntries {H : Type} : List (Lit × DataW H) → Nat
  | [] => 0
  | x :: r => uptoBulkEntry x + uptoBulkEntries r
def uptoBulkEntry {H : Type} : Lit × DataW H → Nat
  | (.string bytes, d) => bytes.length + uptoBulk d + 1
  | (_, d) => uptoBulk d + 1
 end
def uptoSmall : (H : Type) → List (DataW H) → Bool := fun _ ds => decide (uptoBulkAll ds ≤ 1048576)
def OpenSpec.upto (s : _root_.Go.ChangeSpec) : _root_.Go.OpenSpec := { _root_.Go.OpenSpec.ofChange s with cond := some uptoSmall }

/-- 'terrierlaw6.TxnBounds', WHERE WHAT IT READS IS OF BULK AT MOST 1048576: true; the input reads as it did. -/
def txnBoundsUptoRow : OpenClaim := { program := "ytfapklpcgcgahaagreatdoor", sum := "8e953edf03c191eb9ce3787046ec8f7736dd7377f8b2f1801236f8f98885d768", func := "terrier/terrierlaw6.TxnBounds", spec := "txnBounds", unfollowed := true, recurses := true, named := ["unicode/utf8.first", "unicode/utf8.acceptRanges"], apart := false, laid := [("unicode/utf8.acceptRanges", laid_unicode_utf8_acceptRanges), ("unicode/utf8.first", laid_unicode_utf8_first)], narrowed := true }
def TxnBoundsUptoSaid : Prop := txnBoundsUptoRow.holds Tryz.pinned (OpenSpec.upto txnBoundsSpec)

/-- 'terrierlaw6.TxnRoom', WHERE WHAT IT READS IS OF BULK AT MOST 1048576: true; the input reads as it did. -/
def txnRoomUptoRow : OpenClaim := { program := "ytfapklpcgcgahaagreatdoor", sum := "8e953edf03c191eb9ce3787046ec8f7736dd7377f8b2f1801236f8f98885d768", func := "terrier/terrierlaw6.TxnRoom", spec := "txnRoom", unfollowed := true, recurses := true, named := ["unicode/utf8.first", "unicode/utf8.acceptRanges"], apart := false, laid := [("unicode/utf8.acceptRanges", laid_unicode_utf8_acceptRanges), ("unicode/utf8.first", laid_unicode_utf8_first)], narrowed := true }
def TxnRoomUptoSaid : Prop := txnRoomUptoRow.holds Tryz.pinned (OpenSpec.upto txnRoomSpec)

/-- 'terrierlaw6.TxnUndone', WHERE WHAT IT READS IS OF BULK AT MOST 1048576: true; the input reads as it did. -/
def txnUndoneUptoRow : OpenClaim := { program := "ytfapklpcgcgahaagreatdoor", sum := "8e953edf03c191eb9ce3787046ec8f7736dd7377f8b2f1801236f8f98885d768", func := "terrier/terrierlaw6.TxnUndone", spec := "txnUndone", unfollowed := true, recurses := true, named := ["unicode/utf8.first", "unicode/utf8.acceptRanges"], apart := false, laid := [("unicode/utf8.acceptRanges", laid_unicode_utf8_acceptRanges), ("unicode/utf8.first", laid_unicode_utf8_first)], narrowed := true }
def TxnUndoneUptoSaid : Prop := txnUndoneUptoRow.holds Tryz.pinned (OpenSpec.upto txnUndoneSpec)

/-- 'terrierlaw6.TxnSaves', WHERE WHAT IT READS IS OF BULK AT MOST 1048576: true; the input reads as it did. -/
def txnSavesUptoRow : OpenClaim := { program := "ytfapklpcgcgahaagreatdoor", sum := "8e953edf03c191eb9ce3787046ec8f7736dd7377f8b2f1801236f8f98885d768", func := "terrier/terrierlaw6.TxnSaves", spec := "txnSaves", unfollowed := true, recurses := true, named := ["unicode/utf8.first", "unicode/utf8.acceptRanges"], apart := false, laid := [("unicode/utf8.acceptRanges", laid_unicode_utf8_acceptRanges), ("unicode/utf8.first", laid_unicode_utf8_first)], narrowed := true }
def TxnSavesUptoSaid : Prop := txnSavesUptoRow.holds Tryz.pinned (OpenSpec.upto txnSavesSpec)

/-- 'terrierlaw6.TxnOver', WHERE WHAT IT READS IS OF BULK AT MOST 1048576: true; the input reads as it did. -/
def txnOverUptoRow : OpenClaim := { program := "ytfapklpcgcgahaagreatdoor", sum := "8e953edf03c191eb9ce3787046ec8f7736dd7377f8b2f1801236f8f98885d768", func := "terrier/terrierlaw6.TxnOver", spec := "txnOver", unfollowed := true, recurses := true, named := ["unicode/utf8.first", "unicode/utf8.acceptRanges"], apart := false, laid := [("unicode/utf8.acceptRanges", laid_unicode_utf8_acceptRanges), ("unicode/utf8.first", laid_unicode_utf8_first)], narrowed := true }
def TxnOverUptoSaid : Prop := txnOverUptoRow.holds Tryz.pinned (OpenSpec.upto txnOverSpec)

/-- 'terrierlaw6.TxnEach', WHERE WHAT IT READS IS OF BULK AT MOST 1048576: true; the input reads as it did. -/
def txnEachUptoRow : OpenClaim := { program := "ytfapklpcgcgahaagreatdoor", sum := "8e953edf03c191eb9ce3787046ec8f7736dd7377f8b2f1801236f8f98885d768", func := "terrier/terrierlaw6.TxnEach", spec := "txnEach", unfollowed := true, recurses := true, named := ["unicode/utf8.first", "unicode/utf8.acceptRanges"], apart := false, laid := [("unicode/utf8.acceptRanges", laid_unicode_utf8_acceptRanges), ("unicode/utf8.first", laid_unicode_utf8_first)], narrowed := true }
def TxnEachUptoSaid : Prop := txnEachUptoRow.holds Tryz.pinned (OpenSpec.upto txnEachSpec)

/-- 'terrierlaw6.TxnPlays', WHERE WHAT IT READS IS OF BULK AT MOST 1048576: true; the input reads as it did. -/
def txnPlaysUptoRow : OpenClaim := { program := "ytfapklpcgcgahaagreatdoor", sum := "8e953edf03c191eb9ce3787046ec8f7736dd7377f8b2f1801236f8f98885d768", func := "terrier/terrierlaw6.TxnPlays", spec := "txnPlays", unfollowed := true, recurses := true, named := ["unicode/utf8.first", "unicode/utf8.acceptRanges"], apart := false, laid := [("unicode/utf8.acceptRanges", laid_unicode_utf8_acceptRanges), ("unicode/utf8.first", laid_unicode_utf8_first)], narrowed := true }
def TxnPlaysUptoSaid : Prop := txnPlaysUptoRow.holds Tryz.pinned (OpenSpec.upto txnPlaysSpec)

end Rows
end Go.Proofs.YtfapklpcgcgahaaGreatDoor
