/-
  No cell of these rows narrows 'for every input' (looked for: loops, veiled, ifaces, maps, wideKeys, modest, calm, conditions, laid).
  DERIVED. THE GIVEN ROWS OF THIS SEAT. 4 by the template 'for every input the law returns true; each argument reads behind the call as it read before'; 0 by the template 'total and deterministic' (their statements: YtbnodgoccmhjkaaTotals.lean).
  GIVEN WITH THE SEED: the statements are not yours to turn. If you find one false, say at which input.
  Laid BY PROGRAM, IN A SANDBOX (cutbox-rows.mjs): the forced cells as the released guide's own fill.sh prints them over the translation 30c178f51ed1d445… (all of the seat's roots in one cut). By AI agents, Wed Nov 11 2026. No macro, syntax, notation, axiom, sorry.
-/
import Derived.Test.YtbnodgoccmhjkaaChecked
import GoSem.Claim
import GoSem.ClaimJoined
import GoSem.ClaimMapViews
import Derived.JoinedTies
import Derived.KernelRfl
namespace Go.Proofs.Ytbnodgoccmhjkaa
/- THE CELL 'sum', in the pinned program and in every row, IS THE sha256 OF THE DUMP (.gsa) THAT YtbnodgoccmhjkaaProg.lean LOADS. Nothing in Lean hashes anything: it is a label: what it is worth is what the hold of that sum in a sandbox is worth. -/
noncomputable def Try.pinned : Pinned := { name := "ytbnodgoccmhjkaa", sum := "30c178f51ed1d445c38afe07ae877a3c5004195555388c8a2a09ce9ffaf100cb", checked := Try.checked }
namespace Rows
def none {H : Type} : Left H := { results := [], args := [] }

/-- 'tithebarnlaw21.FlatGets': WHATEVER THE INPUT: true; the input reads as it did. -/
def flatGetsSpec : ChangeSpec := { name := "flatGets", fn := fun _ => fun
  | [d1, d2, d3] => { results := [.lit (.bool true)], args := [d1, d2, d3] }
  | _ => none }
def flatGetsRow : OpenClaim := { program := "ytbnodgoccmhjkaa", sum := "30c178f51ed1d445c38afe07ae877a3c5004195555388c8a2a09ce9ffaf100cb", func := "tithebarn/tithebarnlaw21.FlatGets", spec := "flatGets", unfollowed := true, recurses := true, apart := false }
def FlatGetsSaid : Prop := flatGetsRow.holds Try.pinned (OpenSpec.ofChange flatGetsSpec)

/-- ITS FALSE NEIGHBOUR: 'it returns false'. Refute it at one input. -/
def flatGetsWrong : ChangeSpec := { name := "flatGets", fn := fun _ => fun
  | [d1, d2, d3] => { results := [.lit (.bool false)], args := [d1, d2, d3] }
  | _ => none }
def FlatGetsWrongFalsely : Prop := flatGetsRow.holds Try.pinned (OpenSpec.ofChange flatGetsWrong)

/-- 'tithebarnlaw21.FlatFolds': WHATEVER THE INPUT: true; the input reads as it did. -/
def flatFoldsSpec : ChangeSpec := { name := "flatFolds", fn := fun _ => fun
  | [d1, d2, d3] => { results := [.lit (.bool true)], args := [d1, d2, d3] }
  | _ => none }
def flatFoldsRow : OpenClaim := { program := "ytbnodgoccmhjkaa", sum := "30c178f51ed1d445c38afe07ae877a3c5004195555388c8a2a09ce9ffaf100cb", func := "tithebarn/tithebarnlaw21.FlatFolds", spec := "flatFolds", unfollowed := true, recurses := true, apart := false }
def FlatFoldsSaid : Prop := flatFoldsRow.holds Try.pinned (OpenSpec.ofChange flatFoldsSpec)

/-- ITS FALSE NEIGHBOUR: 'it returns false'. Refute it at one input. -/
def flatFoldsWrong : ChangeSpec := { name := "flatFolds", fn := fun _ => fun
  | [d1, d2, d3] => { results := [.lit (.bool false)], args := [d1, d2, d3] }
  | _ => none }
def FlatFoldsWrongFalsely : Prop := flatFoldsRow.holds Try.pinned (OpenSpec.ofChange flatFoldsWrong)

/-- 'tithebarnlaw21.FlatStays': WHATEVER THE INPUT: true; the input reads as it did. -/
def flatStaysSpec : ChangeSpec := { name := "flatStays", fn := fun _ => fun
  | [d1, d2, d3] => { results := [.lit (.bool true)], args := [d1, d2, d3] }
  | _ => none }
def flatStaysRow : OpenClaim := { program := "ytbnodgoccmhjkaa", sum := "30c178f51ed1d445c38afe07ae877a3c5004195555388c8a2a09ce9ffaf100cb", func := "tithebarn/tithebarnlaw21.FlatStays", spec := "flatStays", unfollowed := true, recurses := true, apart := false }
def FlatStaysSaid : Prop := flatStaysRow.holds Try.pinned (OpenSpec.ofChange flatStaysSpec)

/-- ITS FALSE NEIGHBOUR: 'it returns false'. Refute it at one input. -/
def flatStaysWrong : ChangeSpec := { name := "flatStays", fn := fun _ => fun
  | [d1, d2, d3] => { results := [.lit (.bool false)], args := [d1, d2, d3] }
  | _ => none }
def FlatStaysWrongFalsely : Prop := flatStaysRow.holds Try.pinned (OpenSpec.ofChange flatStaysWrong)

/-- 'tithebarnlaw21.FlatPlays': WHATEVER THE INPUT: true; the input reads as it did. -/
def flatPlaysSpec : ChangeSpec := { name := "flatPlays", fn := fun _ => fun
  | [d1, d2] => { results := [.lit (.bool true)], args := [d1, d2] }
  | _ => none }
def flatPlaysRow : OpenClaim := { program := "ytbnodgoccmhjkaa", sum := "30c178f51ed1d445c38afe07ae877a3c5004195555388c8a2a09ce9ffaf100cb", func := "tithebarn/tithebarnlaw21.FlatPlays", spec := "flatPlays", unfollowed := true, recurses := true, apart := false }
def FlatPlaysSaid : Prop := flatPlaysRow.holds Try.pinned (OpenSpec.ofChange flatPlaysSpec)

/-- ITS FALSE NEIGHBOUR: 'it returns false'. Refute it at one input. -/
def flatPlaysWrong : ChangeSpec := { name := "flatPlays", fn := fun _ => fun
  | [d1, d2] => { results := [.lit (.bool false)], args := [d1, d2] }
  | _ => none }
def FlatPlaysWrongFalsely : Prop := flatPlaysRow.holds Try.pinned (OpenSpec.ofChange flatPlaysWrong)

/- THE SECOND FORM. 'bulk': how many values and letters a reading holds, each counted each time it is reached (what is shared counts as often as it is met; a slice's spare places count too). A statement '..UptoSaid' is the law's where the arguments, and the package variables that the reading takes, are together of bulk at most 1048576: NARROWER than '..Said'. Prove '..Said' where nothing that the law and all that it calls make is longer than what came in: it says more and counts as full. Else prove '..UptoSaid'. A law counts once. -/
mutual
def uptoBulk {H : Type} : DataW H → Nat
  | .lit (.string bytes) => bytes.length + 1
  | .lit _ => 1
  | .nil => 1
  | .ptr d => uptoBulk d + 1
  | .slice elems spare => uptoBulkAll elems + uptoBulkAll spare + 1
  | .agg parts => uptoBulkAll parts + 1
  | .iface _ d => uptoBulk d + 1
  | .map entries => uptoBulkEntries entries + 1
  | .held _ => 1
def uptoBulkAll {H : Type} : List (DataW H) → Nat
  | [] => 0
  | d :: r => uptoBulk d + uptoBulkAll r
def uptoBulkEntries {H : Type} : List (Lit × DataW H) → Nat
  | [] => 0
  | x :: r => uptoBulkEntry x + uptoBulkEntries r
def uptoBulkEntry {H : Type} : Lit × DataW H → Nat
  | (.string bytes, d) => bytes.length + uptoBulk d + 1
  | (_, d) => uptoBulk d + 1
 end
def uptoSmall : (H : Type) → List (DataW H) → Bool := fun _ ds => decide (uptoBulkAll ds ≤ 1048576)
def OpenSpec.upto (s : _root_.Go.ChangeSpec) : _root_.Go.OpenSpec := { _root_.Go.OpenSpec.ofChange s with cond := some uptoSmall }

/-- 'tithebarnlaw21.FlatGets', WHERE WHAT IT READS IS OF BULK AT MOST 1048576: true; the input reads as it did. -/
def flatGetsUptoRow : OpenClaim := { program := "ytbnodgoccmhjkaa", sum := "30c178f51ed1d445c38afe07ae877a3c5004195555388c8a2a09ce9ffaf100cb", func := "tithebarn/tithebarnlaw21.FlatGets", spec := "flatGets", unfollowed := true, recurses := true, apart := false, narrowed := true }
def FlatGetsUptoSaid : Prop := flatGetsUptoRow.holds Try.pinned (OpenSpec.upto flatGetsSpec)

/-- 'tithebarnlaw21.FlatFolds', WHERE WHAT IT READS IS OF BULK AT MOST 1048576: true; the input reads as it did. -/
def flatFoldsUptoRow : OpenClaim := { program := "ytbnodgoccmhjkaa", sum := "30c178f51ed1d445c38afe07ae877a3c5004195555388c8a2a09ce9ffaf100cb", func := "tithebarn/tithebarnlaw21.FlatFolds", spec := "flatFolds", unfollowed := true, recurses := true, apart := false, narrowed := true }
def FlatFoldsUptoSaid : Prop := flatFoldsUptoRow.holds Try.pinned (OpenSpec.upto flatFoldsSpec)

/-- 'tithebarnlaw21.FlatStays', WHERE WHAT IT READS IS OF BULK AT MOST 1048576: true; the input reads as it did. -/
def flatStaysUptoRow : OpenClaim := { program := "ytbnodgoccmhjkaa", sum := "30c178f51ed1d445c38afe07ae877a3c5004195555388c8a2a09ce9ffaf100cb", func := "tithebarn/tithebarnlaw21.FlatStays", spec := "flatStays", unfollowed := true, recurses := true, apart := false, narrowed := true }
def FlatStaysUptoSaid : Prop := flatStaysUptoRow.holds Try.pinned (OpenSpec.upto flatStaysSpec)

/-- 'tithebarnlaw21.FlatPlays', WHERE WHAT IT READS IS OF BULK AT MOST 1048576: true; the input reads as it did. -/
def flatPlaysUptoRow : OpenClaim := { program := "ytbnodgoccmhjkaa", sum := "30c178f51ed1d445c38afe07ae877a3c5004195555388c8a2a09ce9ffaf100cb", func := "tithebarn/tithebarnlaw21.FlatPlays", spec := "flatPlays", unfollowed := true, recurses := true, apart := false, narrowed := true }
def FlatPlaysUptoSaid : Prop := flatPlaysUptoRow.holds Try.pinned (OpenSpec.upto flatPlaysSpec)

end Rows
end Go.Proofs.Ytbnodgoccmhjkaa
