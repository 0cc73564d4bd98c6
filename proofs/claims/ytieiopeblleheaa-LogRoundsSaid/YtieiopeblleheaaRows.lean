/-
  No cell of these rows narrows 'for every input' (looked for: loops, veiled, ifaces, maps, wideKeys, modest, calm, conditions, laid).
  DERIVED. THE GIVEN ROWS OF THIS SEAT. 7 by the template 'for every input the law returns true; each argument reads behind the call as it read before'; 0 by the template 'total and deterministic' (their statements: YtieiopeblleheaaTotals.lean).
  GIVEN WITH THE SEED: the statements are not yours to turn. If you find one false, say at which input.
  Laid BY PROGRAM, IN A SANDBOX (cutbox-rows.mjs): the forced cells as the released guide's own fill.sh prints them over the translation 57350181d5b0616b… (all of the seat's roots in one cut). By AI agents, Wed Nov 11 2026. No macro, syntax, notation, axiom, sorry.
-/
import Derived.Test.YtieiopeblleheaaChecked
import GoSem.Claim
import GoSem.ClaimJoined
import GoSem.ClaimMapViews
import Derived.JoinedTies
import Derived.KernelRfl
namespace Go.Proofs.Ytieiopeblleheaa
/- THE CELL 'sum', in the pinned program and in every row, IS THE sha256 OF THE DUMP (.gsa) THAT YtieiopeblleheaaProg.lean LOADS. Nothing in Lean hashes anything: it is a label: what it is worth is what the hold of that sum in a sandbox is worth. -/
noncomputable def Try.pinned : Pinned := { name := "ytieiopeblleheaa", sum := "57350181d5b0616bfa099454d79ed4408d711f0974d3f6837ded52a67e76f983", checked := Try.checked }
namespace Rows
def none {H : Type} : Left H := { results := [], args := [] }

/-- 'terrierlaw2.DiskLasts': WHATEVER THE INPUT: true; the input reads as it did. -/
def diskLastsSpec : ChangeSpec := { name := "diskLasts", fn := fun _ => fun
  | [d1, d2, d3] => { results := [.lit (.bool true)], args := [d1, d2, d3] }
  | _ => none }
def diskLastsRow : OpenClaim := { program := "ytieiopeblleheaa", sum := "57350181d5b0616bfa099454d79ed4408d711f0974d3f6837ded52a67e76f983", func := "terrier/terrierlaw2.DiskLasts", spec := "diskLasts", unfollowed := true, recurses := true, apart := false }
def DiskLastsSaid : Prop := diskLastsRow.holds Try.pinned (OpenSpec.ofChange diskLastsSpec)

/-- ITS FALSE NEIGHBOUR: 'it returns false'. Refute it at one input. -/
def diskLastsWrong : ChangeSpec := { name := "diskLasts", fn := fun _ => fun
  | [d1, d2, d3] => { results := [.lit (.bool false)], args := [d1, d2, d3] }
  | _ => none }
def DiskLastsWrongFalsely : Prop := diskLastsRow.holds Try.pinned (OpenSpec.ofChange diskLastsWrong)

/-- 'terrierlaw2.DiskFuses': WHATEVER THE INPUT: true; the input reads as it did. -/
def diskFusesSpec : ChangeSpec := { name := "diskFuses", fn := fun _ => fun
  | [d1, d2] => { results := [.lit (.bool true)], args := [d1, d2] }
  | _ => none }
def diskFusesRow : OpenClaim := { program := "ytieiopeblleheaa", sum := "57350181d5b0616bfa099454d79ed4408d711f0974d3f6837ded52a67e76f983", func := "terrier/terrierlaw2.DiskFuses", spec := "diskFuses", unfollowed := true, recurses := true, apart := false }
def DiskFusesSaid : Prop := diskFusesRow.holds Try.pinned (OpenSpec.ofChange diskFusesSpec)

/-- ITS FALSE NEIGHBOUR: 'it returns false'. Refute it at one input. -/
def diskFusesWrong : ChangeSpec := { name := "diskFuses", fn := fun _ => fun
  | [d1, d2] => { results := [.lit (.bool false)], args := [d1, d2] }
  | _ => none }
def DiskFusesWrongFalsely : Prop := diskFusesRow.holds Try.pinned (OpenSpec.ofChange diskFusesWrong)

/-- 'terrierlaw2.DiskCopies': WHATEVER THE INPUT: true; the input reads as it did. -/
def diskCopiesSpec : ChangeSpec := { name := "diskCopies", fn := fun _ => fun
  | [d1, d2, d3, d4] => { results := [.lit (.bool true)], args := [d1, d2, d3, d4] }
  | _ => none }
def diskCopiesRow : OpenClaim := { program := "ytieiopeblleheaa", sum := "57350181d5b0616bfa099454d79ed4408d711f0974d3f6837ded52a67e76f983", func := "terrier/terrierlaw2.DiskCopies", spec := "diskCopies", unfollowed := true, recurses := true, apart := false }
def DiskCopiesSaid : Prop := diskCopiesRow.holds Try.pinned (OpenSpec.ofChange diskCopiesSpec)

/-- ITS FALSE NEIGHBOUR: 'it returns false'. Refute it at one input. -/
def diskCopiesWrong : ChangeSpec := { name := "diskCopies", fn := fun _ => fun
  | [d1, d2, d3, d4] => { results := [.lit (.bool false)], args := [d1, d2, d3, d4] }
  | _ => none }
def DiskCopiesWrongFalsely : Prop := diskCopiesRow.holds Try.pinned (OpenSpec.ofChange diskCopiesWrong)

/-- 'terrierlaw2.DiskPlays': WHATEVER THE INPUT: true; the input reads as it did. -/
def diskPlaysSpec : ChangeSpec := { name := "diskPlays", fn := fun _ => fun
  | [d1, d2] => { results := [.lit (.bool true)], args := [d1, d2] }
  | _ => none }
def diskPlaysRow : OpenClaim := { program := "ytieiopeblleheaa", sum := "57350181d5b0616bfa099454d79ed4408d711f0974d3f6837ded52a67e76f983", func := "terrier/terrierlaw2.DiskPlays", spec := "diskPlays", unfollowed := true, recurses := true, apart := false }
def DiskPlaysSaid : Prop := diskPlaysRow.holds Try.pinned (OpenSpec.ofChange diskPlaysSpec)

/-- ITS FALSE NEIGHBOUR: 'it returns false'. Refute it at one input. -/
def diskPlaysWrong : ChangeSpec := { name := "diskPlays", fn := fun _ => fun
  | [d1, d2] => { results := [.lit (.bool false)], args := [d1, d2] }
  | _ => none }
def DiskPlaysWrongFalsely : Prop := diskPlaysRow.holds Try.pinned (OpenSpec.ofChange diskPlaysWrong)

/-- 'terrierlaw4.LogBounds': WHATEVER THE INPUT: true; the input reads as it did. -/
def logBoundsSpec : ChangeSpec := { name := "logBounds", fn := fun _ => fun
  | [d1, d2] => { results := [.lit (.bool true)], args := [d1, d2] }
  | _ => none }
def logBoundsRow : OpenClaim := { program := "ytieiopeblleheaa", sum := "57350181d5b0616bfa099454d79ed4408d711f0974d3f6837ded52a67e76f983", func := "terrier/terrierlaw4.LogBounds", spec := "logBounds", unfollowed := true, recurses := true, apart := false }
def LogBoundsSaid : Prop := logBoundsRow.holds Try.pinned (OpenSpec.ofChange logBoundsSpec)

/-- ITS FALSE NEIGHBOUR: 'it returns false'. Refute it at one input. -/
def logBoundsWrong : ChangeSpec := { name := "logBounds", fn := fun _ => fun
  | [d1, d2] => { results := [.lit (.bool false)], args := [d1, d2] }
  | _ => none }
def LogBoundsWrongFalsely : Prop := logBoundsRow.holds Try.pinned (OpenSpec.ofChange logBoundsWrong)

/-- 'terrierlaw4.LogLasts': WHATEVER THE INPUT: true; the input reads as it did. -/
def logLastsSpec : ChangeSpec := { name := "logLasts", fn := fun _ => fun
  | [d1, d2] => { results := [.lit (.bool true)], args := [d1, d2] }
  | _ => none }
def logLastsRow : OpenClaim := { program := "ytieiopeblleheaa", sum := "57350181d5b0616bfa099454d79ed4408d711f0974d3f6837ded52a67e76f983", func := "terrier/terrierlaw4.LogLasts", spec := "logLasts", unfollowed := true, recurses := true, apart := false }
def LogLastsSaid : Prop := logLastsRow.holds Try.pinned (OpenSpec.ofChange logLastsSpec)

/-- ITS FALSE NEIGHBOUR: 'it returns false'. Refute it at one input. -/
def logLastsWrong : ChangeSpec := { name := "logLasts", fn := fun _ => fun
  | [d1, d2] => { results := [.lit (.bool false)], args := [d1, d2] }
  | _ => none }
def LogLastsWrongFalsely : Prop := logLastsRow.holds Try.pinned (OpenSpec.ofChange logLastsWrong)

/-- 'terrierlaw4.LogRounds': WHATEVER THE INPUT: true; the input reads as it did. -/
def logRoundsSpec : ChangeSpec := { name := "logRounds", fn := fun _ => fun
  | [d1, d2, d3] => { results := [.lit (.bool true)], args := [d1, d2, d3] }
  | _ => none }
def logRoundsRow : OpenClaim := { program := "ytieiopeblleheaa", sum := "57350181d5b0616bfa099454d79ed4408d711f0974d3f6837ded52a67e76f983", func := "terrier/terrierlaw4.LogRounds", spec := "logRounds", unfollowed := true, recurses := true, apart := false }
def LogRoundsSaid : Prop := logRoundsRow.holds Try.pinned (OpenSpec.ofChange logRoundsSpec)

/-- ITS FALSE NEIGHBOUR: 'it returns false'. Refute it at one input. -/
def logRoundsWrong : ChangeSpec := { name := "logRounds", fn := fun _ => fun
  | [d1, d2, d3] => { results := [.lit (.bool false)], args := [d1, d2, d3] }
  | _ => none }
def LogRoundsWrongFalsely : Prop := logRoundsRow.holds Try.pinned (OpenSpec.ofChange logRoundsWrong)

/- THE SECOND FORM. 'bulk': how many values and letters a reading holds, each counted each time it is reached (what is shared counts as often as it is met; a slice's spare places count too). A statement '..UptoSaid' is the law's where the arguments, and the package variables that the reading takes, are together of bulk at most 1048576: NARROWER than '..Said'. Prove '..Said' where nothing that the law and all that it calls make is longer than what came in: it says more and counts as full. Else prove '..UptoSaid'. A law counts once. -/
mutual
def uptoBulk {H : Type} : DataW H → Nat
  | .lit (.string bytes) => bytes.length + 1
  | .lit _ => 1
  | .nil => 1
  | .ptr d => uptoBulk d + 1
  | .slice elems spare => uptoBulkAll elems + uptoBulkAll spare + 1
  | .agg parts => uptoBulkAll parts + 1
  | .iface _ d => uptoBulk d + 1
  | .map entries => uptoBulkEntries entries + 1
  | .held _ => 1
def uptoBulkAll {H : Type} : List (DataW H) → Nat
  | [] => 0
  | d :: r => uptoBulk d + uptoBulkAll r
def uptoBulkEntries {H : Type} : List (Lit × DataW H) → Nat
  | [] => 0
  | x :: r => uptoBulkEntry x + uptoBulkEntries r
def uptoBulkEntry {H : Type} : Lit × DataW H → Nat
  | (.string bytes, d) => bytes.length + uptoBulk d + 1
  | (_, d) => uptoBulk d + 1
 end
def uptoSmall : (H : Type) → List (DataW H) → Bool := fun _ ds => decide (uptoBulkAll ds ≤ 1048576)
def OpenSpec.upto (s : _root_.Go.ChangeSpec) : _root_.Go.OpenSpec := { _root_.Go.OpenSpec.ofChange s with cond := some uptoSmall }

/-- 'terrierlaw2.DiskLasts', WHERE WHAT IT READS IS OF BULK AT MOST 1048576: true; the input reads as it did. -/
def diskLastsUptoRow : OpenClaim := { program := "ytieiopeblleheaa", sum := "57350181d5b0616bfa099454d79ed4408d711f0974d3f6837ded52a67e76f983", func := "terrier/terrierlaw2.DiskLasts", spec := "diskLasts", unfollowed := true, recurses := true, apart := false, narrowed := true }
def DiskLastsUptoSaid : Prop := diskLastsUptoRow.holds Try.pinned (OpenSpec.upto diskLastsSpec)

/-- 'terrierlaw2.DiskFuses', WHERE WHAT IT READS IS OF BULK AT MOST 1048576: true; the input reads as it did. -/
def diskFusesUptoRow : OpenClaim := { program := "ytieiopeblleheaa", sum := "57350181d5b0616bfa099454d79ed4408d711f0974d3f6837ded52a67e76f983", func := "terrier/terrierlaw2.DiskFuses", spec := "diskFuses", unfollowed := true, recurses := true, apart := false, narrowed := true }
def DiskFusesUptoSaid : Prop := diskFusesUptoRow.holds Try.pinned (OpenSpec.upto diskFusesSpec)

/-- 'terrierlaw2.DiskCopies', WHERE WHAT IT READS IS OF BULK AT MOST 1048576: true; the input reads as it did. -/
def diskCopiesUptoRow : OpenClaim := { program := "ytieiopeblleheaa", sum := "57350181d5b0616bfa099454d79ed4408d711f0974d3f6837ded52a67e76f983", func := "terrier/terrierlaw2.DiskCopies", spec := "diskCopies", unfollowed := true, recurses := true, apart := false, narrowed := true }
def DiskCopiesUptoSaid : Prop := diskCopiesUptoRow.holds Try.pinned (OpenSpec.upto diskCopiesSpec)

/-- 'terrierlaw2.DiskPlays', WHERE WHAT IT READS IS OF BULK AT MOST 1048576: true; the input reads as it did. -/
def diskPlaysUptoRow : OpenClaim := { program := "ytieiopeblleheaa", sum := "57350181d5b0616bfa099454d79ed4408d711f0974d3f6837ded52a67e76f983", func := "terrier/terrierlaw2.DiskPlays", spec := "diskPlays", unfollowed := true, recurses := true, apart := false, narrowed := true }
def DiskPlaysUptoSaid : Prop := diskPlaysUptoRow.holds Try.pinned (OpenSpec.upto diskPlaysSpec)

/-- 'terrierlaw4.LogBounds', WHERE WHAT IT READS IS OF BULK AT MOST 1048576: true; the input reads as it did. -/
def logBoundsUptoRow : OpenClaim := { program := "ytieiopeblleheaa", sum := "57350181d5b0616bfa099454d79ed4408d711f0974d3f6837ded52a67e76f983", func := "terrier/terrierlaw4.LogBounds", spec := "logBounds", unfollowed := true, recurses := true, apart := false, narrowed := true }
def LogBoundsUptoSaid : Prop := logBoundsUptoRow.holds Try.pinned (OpenSpec.upto logBoundsSpec)

/-- 'terrierlaw4.LogLasts', WHERE WHAT IT READS IS OF BULK AT MOST 1048576: true; the input reads as it did. -/
def logLastsUptoRow : OpenClaim := { program := "ytieiopeblleheaa", sum := "57350181d5b0616bfa099454d79ed4408d711f0974d3f6837ded52a67e76f983", func := "terrier/terrierlaw4.LogLasts", spec := "logLasts", unfollowed := true, recurses := true, apart := false, narrowed := true }
def LogLastsUptoSaid : Prop := logLastsUptoRow.holds Try.pinned (OpenSpec.upto logLastsSpec)

/-- 'terrierlaw4.LogRounds', WHERE WHAT IT READS IS OF BULK AT MOST 1048576: true; the input reads as it did. -/
def logRoundsUptoRow : OpenClaim := { program := "ytieiopeblleheaa", sum := "57350181d5b0616bfa099454d79ed4408d711f0974d3f6837ded52a67e76f983", func := "terrier/terrierlaw4.LogRounds", spec := "logRounds", unfollowed := true, recurses := true, apart := false, narrowed := true }
def LogRoundsUptoSaid : Prop := logRoundsUptoRow.holds Try.pinned (OpenSpec.upto logRoundsSpec)

end Rows
end Go.Proofs.Ytieiopeblleheaa
