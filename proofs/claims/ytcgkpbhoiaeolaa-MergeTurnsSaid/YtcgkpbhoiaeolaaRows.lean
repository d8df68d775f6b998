/-
  No cell of these rows narrows 'for every input' (looked for: loops, veiled, ifaces, maps, wideKeys, modest, calm, conditions, laid).
  DERIVED. THE GIVEN ROWS OF THIS SEAT. 6 by the template 'for every input the law returns true; each argument reads behind the call as it read before'; 0 by the template 'total and deterministic' (their statements: YtcgkpbhoiaeolaaTotals.lean).
  GIVEN WITH THE SEED: the statements are not yours to turn. If you find one false, say at which input.
  Laid BY PROGRAM, IN A SANDBOX (cutbox-rows.mjs): the forced cells as the released guide's own fill.sh prints them over the translation 29a67a3842ebf92a… (all of the seat's roots in one cut). By AI agents, Wed Nov 11 2026. No macro, syntax, notation, axiom, sorry.
-/
import Derived.Test.YtcgkpbhoiaeolaaChecked
import GoSem.Claim
import GoSem.ClaimJoined
import GoSem.ClaimMapViews
import Derived.JoinedTies
import Derived.KernelRfl
namespace Go.Proofs.Ytcgkpbhoiaeolaa
/- THE CELL 'sum', in the pinned program and in every row, IS THE sha256 OF THE DUMP (.gsa) THAT YtcgkpbhoiaeolaaProg.lean LOADS. Nothing in Lean hashes anything: it is a label: what it is worth is what the hold of that sum in a sandbox is worth. -/
noncomputable def Try.pinned : Pinned := { name := "ytcgkpbhoiaeolaa", sum := "29a67a3842ebf92a1a4cc42eca530e8f6ba27c68746404419629e0d43ecd772d", checked := Try.checked }
namespace Rows
def none {H : Type} : Left H := { results := [], args := [] }

/-- 'tithebarnlaw06.MergeIs': WHATEVER THE INPUT: true; the input reads as it did. -/
def mergeIsSpec : ChangeSpec := { name := "mergeIs", fn := fun _ => fun
  | [d] => { results := [.lit (.bool true)], args := [d] }
  | _ => none }
def mergeIsRow : OpenClaim := { program := "ytcgkpbhoiaeolaa", sum := "29a67a3842ebf92a1a4cc42eca530e8f6ba27c68746404419629e0d43ecd772d", func := "tithebarn/tithebarnlaw06.MergeIs", spec := "mergeIs", unfollowed := true, recurses := true, apart := false }
def MergeIsSaid : Prop := mergeIsRow.holds Try.pinned (OpenSpec.ofChange mergeIsSpec)

/-- ITS FALSE NEIGHBOUR: 'it returns false'. Refute it at one input. -/
def mergeIsWrong : ChangeSpec := { name := "mergeIs", fn := fun _ => fun
  | [d] => { results := [.lit (.bool false)], args := [d] }
  | _ => none }
def MergeIsWrongFalsely : Prop := mergeIsRow.holds Try.pinned (OpenSpec.ofChange mergeIsWrong)

/-- 'tithebarnlaw06.MergeFinds': WHATEVER THE INPUT: true; the input reads as it did. -/
def mergeFindsSpec : ChangeSpec := { name := "mergeFinds", fn := fun _ => fun
  | [d1, d2] => { results := [.lit (.bool true)], args := [d1, d2] }
  | _ => none }
def mergeFindsRow : OpenClaim := { program := "ytcgkpbhoiaeolaa", sum := "29a67a3842ebf92a1a4cc42eca530e8f6ba27c68746404419629e0d43ecd772d", func := "tithebarn/tithebarnlaw06.MergeFinds", spec := "mergeFinds", unfollowed := true, recurses := true, apart := false }
def MergeFindsSaid : Prop := mergeFindsRow.holds Try.pinned (OpenSpec.ofChange mergeFindsSpec)

/-- ITS FALSE NEIGHBOUR: 'it returns false'. Refute it at one input. -/
def mergeFindsWrong : ChangeSpec := { name := "mergeFinds", fn := fun _ => fun
  | [d1, d2] => { results := [.lit (.bool false)], args := [d1, d2] }
  | _ => none }
def MergeFindsWrongFalsely : Prop := mergeFindsRow.holds Try.pinned (OpenSpec.ofChange mergeFindsWrong)

/-- 'tithebarnlaw06.MergeGroups': WHATEVER THE INPUT: true; the input reads as it did. -/
def mergeGroupsSpec : ChangeSpec := { name := "mergeGroups", fn := fun _ => fun
  | [d1, d2, d3] => { results := [.lit (.bool true)], args := [d1, d2, d3] }
  | _ => none }
def mergeGroupsRow : OpenClaim := { program := "ytcgkpbhoiaeolaa", sum := "29a67a3842ebf92a1a4cc42eca530e8f6ba27c68746404419629e0d43ecd772d", func := "tithebarn/tithebarnlaw06.MergeGroups", spec := "mergeGroups", unfollowed := true, recurses := true, apart := false }
def MergeGroupsSaid : Prop := mergeGroupsRow.holds Try.pinned (OpenSpec.ofChange mergeGroupsSpec)

/-- ITS FALSE NEIGHBOUR: 'it returns false'. Refute it at one input. -/
def mergeGroupsWrong : ChangeSpec := { name := "mergeGroups", fn := fun _ => fun
  | [d1, d2, d3] => { results := [.lit (.bool false)], args := [d1, d2, d3] }
  | _ => none }
def MergeGroupsWrongFalsely : Prop := mergeGroupsRow.holds Try.pinned (OpenSpec.ofChange mergeGroupsWrong)

/-- 'tithebarnlaw06.MergeSorted': WHATEVER THE INPUT: true; the input reads as it did. -/
def mergeSortedSpec : ChangeSpec := { name := "mergeSorted", fn := fun _ => fun
  | [d] => { results := [.lit (.bool true)], args := [d] }
  | _ => none }
def mergeSortedRow : OpenClaim := { program := "ytcgkpbhoiaeolaa", sum := "29a67a3842ebf92a1a4cc42eca530e8f6ba27c68746404419629e0d43ecd772d", func := "tithebarn/tithebarnlaw06.MergeSorted", spec := "mergeSorted", unfollowed := true, recurses := true, apart := false }
def MergeSortedSaid : Prop := mergeSortedRow.holds Try.pinned (OpenSpec.ofChange mergeSortedSpec)

/-- ITS FALSE NEIGHBOUR: 'it returns false'. Refute it at one input. -/
def mergeSortedWrong : ChangeSpec := { name := "mergeSorted", fn := fun _ => fun
  | [d] => { results := [.lit (.bool false)], args := [d] }
  | _ => none }
def MergeSortedWrongFalsely : Prop := mergeSortedRow.holds Try.pinned (OpenSpec.ofChange mergeSortedWrong)

/-- 'tithebarnlaw06.MergeWalks': WHATEVER THE INPUT: true; the input reads as it did. -/
def mergeWalksSpec : ChangeSpec := { name := "mergeWalks", fn := fun _ => fun
  | [d1, d2] => { results := [.lit (.bool true)], args := [d1, d2] }
  | _ => none }
def mergeWalksRow : OpenClaim := { program := "ytcgkpbhoiaeolaa", sum := "29a67a3842ebf92a1a4cc42eca530e8f6ba27c68746404419629e0d43ecd772d", func := "tithebarn/tithebarnlaw06.MergeWalks", spec := "mergeWalks", unfollowed := true, recurses := true, apart := false }
def MergeWalksSaid : Prop := mergeWalksRow.holds Try.pinned (OpenSpec.ofChange mergeWalksSpec)

/-- ITS FALSE NEIGHBOUR: 'it returns false'. Refute it at one input. -/
def mergeWalksWrong : ChangeSpec := { name := "mergeWalks", fn := fun _ => fun
  | [d1, d2] => { results := [.lit (.bool false)], args := [d1, d2] }
  | _ => none }
def MergeWalksWrongFalsely : Prop := mergeWalksRow.holds Try.pinned (OpenSpec.ofChange mergeWalksWrong)

/-- 'tithebarnlaw06.MergeTurns': WHATEVER THE INPUT: true; the input reads as it did. -/
def mergeTurnsSpec : ChangeSpec := { name := "mergeTurns", fn := fun _ => fun
  | [d1, d2] => { results := [.lit (.bool true)], args := [d1, d2] }
  | _ => none }
def mergeTurnsRow : OpenClaim := { program := "ytcgkpbhoiaeolaa", sum := "29a67a3842ebf92a1a4cc42eca530e8f6ba27c68746404419629e0d43ecd772d", func := "tithebarn/tithebarnlaw06.MergeTurns", spec := "mergeTurns", unfollowed := true, recurses := true, apart := false }
def MergeTurnsSaid : Prop := mergeTurnsRow.holds Try.pinned (OpenSpec.ofChange mergeTurnsSpec)

/-- ITS FALSE NEIGHBOUR: 'it returns false'. Refute it at one input. -/
def mergeTurnsWrong : ChangeSpec := { name := "mergeTurns", fn := fun _ => fun
  | [d1, d2] => { results := [.lit (.bool false)], args := [d1, d2] }
  | _ => none }
def MergeTurnsWrongFalsely : Prop := mergeTurnsRow.holds Try.pinned (OpenSpec.ofChange mergeTurnsWrong)

/- THE SECOND FORM. 'bulk': how many values and letters a reading holds, each counted each time it is reached (what is shared counts as often as it is met; a slice's spare places count too). A statement '..UptoSaid' is the law's where the arguments, and the package variables that the reading takes, are together of bulk at most 1048576: NARROWER than '..Said'. Prove '..Said' where nothing that the law and all that it calls make is longer than what came in: it says more and counts as full. Else prove '..UptoSaid'. A law counts once. -/
mutual
def uptoBulk {H : Type} : DataW H → Nat
  | .lit (.string bytes) => bytes.length + 1
  | .lit _ => 1
  | .nil => 1
  | .ptr d => uptoBulk d + 1
  | .slice elems spare => uptoBulkAll elems + uptoBulkAll spare + 1
  | .agg parts => uptoBulkAll parts + 1
  | .iface _ d => uptoBulk d + 1
  | .map entries => uptoBulkEntries entries + 1
  | .held _ => 1
def uptoBulkAll {H : Type} : List (DataW H) → Nat
  | [] => 0
  | d :: r => uptoBulk d + uptoBulkAll r
def uptoBulkEntries {H : Type} : List (Lit × DataW H) → Nat
  | [] => 0
  | x :: r => uptoBulkEntry x + uptoBulkEntries r
def uptoBulkEntry {H : Type} : Lit × DataW H → Nat
  | (.string bytes, d) => bytes.length + uptoBulk d + 1
  | (_, d) => uptoBulk d + 1
 end
def uptoSmall : (H : Type) → List (DataW H) → Bool := fun _ ds => decide (uptoBulkAll ds ≤ 1048576)
def OpenSpec.upto (s : _root_.Go.ChangeSpec) : _root_.Go.OpenSpec := { _root_.Go.OpenSpec.ofChange s with cond := some uptoSmall }

/-- 'tithebarnlaw06.MergeIs', WHERE WHAT IT READS IS OF BULK AT MOST 1048576: true; the input reads as it did. -/
def mergeIsUptoRow : OpenClaim := { program := "ytcgkpbhoiaeolaa", sum := "29a67a3842ebf92a1a4cc42eca530e8f6ba27c68746404419629e0d43ecd772d", func := "tithebarn/tithebarnlaw06.MergeIs", spec := "mergeIs", unfollowed := true, recurses := true, apart := false, narrowed := true }
def MergeIsUptoSaid : Prop := mergeIsUptoRow.holds Try.pinned (OpenSpec.upto mergeIsSpec)

/-- 'tithebarnlaw06.MergeFinds', WHERE WHAT IT READS IS OF BULK AT MOST 1048576: true; the input reads as it did. -/
def mergeFindsUptoRow : OpenClaim := { program := "ytcgkpbhoiaeolaa", sum := "29a67a3842ebf92a1a4cc42eca530e8f6ba27c68746404419629e0d43ecd772d", func := "tithebarn/tithebarnlaw06.MergeFinds", spec := "mergeFinds", unfollowed := true, recurses := true, apart := false, narrowed := true }
def MergeFindsUptoSaid : Prop := mergeFindsUptoRow.holds Try.pinned (OpenSpec.upto mergeFindsSpec)

/-- 'tithebarnlaw06.MergeGroups', WHERE WHAT IT READS IS OF BULK AT MOST 1048576: true; the input reads as it did. -/
def mergeGroupsUptoRow : OpenClaim := { program := "ytcgkpbhoiaeolaa", sum := "29a67a3842ebf92a1a4cc42eca530e8f6ba27c68746404419629e0d43ecd772d", func := "tithebarn/tithebarnlaw06.MergeGroups", spec := "mergeGroups", unfollowed := true, recurses := true, apart := false, narrowed := true }
def MergeGroupsUptoSaid : Prop := mergeGroupsUptoRow.holds Try.pinned (OpenSpec.upto mergeGroupsSpec)

/-- 'tithebarnlaw06.MergeSorted', WHERE WHAT IT READS IS OF BULK AT MOST 1048576: true; the input reads as it did. -/
def mergeSortedUptoRow : OpenClaim := { program := "ytcgkpbhoiaeolaa", sum := "29a67a3842ebf92a1a4cc42eca530e8f6ba27c68746404419629e0d43ecd772d", func := "tithebarn/tithebarnlaw06.MergeSorted", spec := "mergeSorted", unfollowed := true, recurses := true, apart := false, narrowed := true }
def MergeSortedUptoSaid : Prop := mergeSortedUptoRow.holds Try.pinned (OpenSpec.upto mergeSortedSpec)

/-- 'tithebarnlaw06.MergeWalks', WHERE WHAT IT READS IS OF BULK AT MOST 1048576: true; the input reads as it did. -/
def mergeWalksUptoRow : OpenClaim := { program := "ytcgkpbhoiaeolaa", sum := "29a67a3842ebf92a1a4cc42eca530e8f6ba27c68746404419629e0d43ecd772d", func := "tithebarn/tithebarnlaw06.MergeWalks", spec := "mergeWalks", unfollowed := true, recurses := true, apart := false, narrowed := true }
def MergeWalksUptoSaid : Prop := mergeWalksUptoRow.holds Try.pinned (OpenSpec.upto mergeWalksSpec)

/-- 'tithebarnlaw06.MergeTurns', WHERE WHAT IT READS IS OF BULK AT MOST 1048576: true; the input reads as it did. -/
def mergeTurnsUptoRow : OpenClaim := { program := "ytcgkpbhoiaeolaa", sum := "29a67a3842ebf92a1a4cc42eca530e8f6ba27c68746404419629e0d43ecd772d", func := "tithebarn/tithebarnlaw06.MergeTurns", spec := "mergeTurns", unfollowed := true, recurses := true, apart := false, narrowed := true }
def MergeTurnsUptoSaid : Prop := mergeTurnsUptoRow.holds Try.pinned (OpenSpec.upto mergeTurnsSpec)

end Rows
end Go.Proofs.Ytcgkpbhoiaeolaa
