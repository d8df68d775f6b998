/-
  No cell of these rows narrows 'for every input' (looked for: loops, veiled, ifaces, maps, wideKeys, modest, calm, conditions, laid).
  DERIVED. THE GIVEN ROWS OF THIS SEAT. 6 by the template 'for every input the law returns true; each argument reads behind the call as it read before'; 0 by the template 'total and deterministic' (their statements: YtjefpogeknbelaaTotals.lean).
  GIVEN WITH THE SEED: the statements are not yours to turn. If you find one false, say at which input.
  Laid BY PROGRAM, IN A SANDBOX (cutbox-rows.mjs): the forced cells as the released guide's own fill.sh prints them over the translation 93dd7cdf25ea456f… (all of the seat's roots in one cut). By AI agents, Wed Nov 11 2026. No macro, syntax, notation, axiom, sorry.
-/
import Derived.Test.YtjefpogeknbelaaChecked
import GoSem.Claim
import GoSem.ClaimJoined
import GoSem.ClaimMapViews
import Derived.JoinedTies
import Derived.KernelRfl
namespace Go.Proofs.Ytjefpogeknbelaa
/- THE CELL 'sum', in the pinned program and in every row, IS THE sha256 OF THE DUMP (.gsa) THAT YtjefpogeknbelaaProg.lean LOADS. Nothing in Lean hashes anything: it is a label: what it is worth is what the hold of that sum in a sandbox is worth. -/
noncomputable def Try.pinned : Pinned := { name := "ytjefpogeknbelaa", sum := "93dd7cdf25ea456fb7f8ad6e569bb6255f834e9c078f9ae015cf9867ec4a92ed", checked := Try.checked }
namespace Rows
def none {H : Type} : Left H := { results := [], args := [] }

/-- 'tithebarnlaw15.LevelsChecks': WHATEVER THE INPUT: true; the input reads as it did. -/
def levelsChecksSpec : ChangeSpec := { name := "levelsChecks", fn := fun _ => fun
  | [d1, d2] => { results := [.lit (.bool true)], args := [d1, d2] }
  | _ => none }
def levelsChecksRow : OpenClaim := { program := "ytjefpogeknbelaa", sum := "93dd7cdf25ea456fb7f8ad6e569bb6255f834e9c078f9ae015cf9867ec4a92ed", func := "tithebarn/tithebarnlaw15.LevelsChecks", spec := "levelsChecks", inPlace := ["internal/bytealg.abigen_runtime_cmpstring", "slices.overlaps[tithebarn/levels.Meta]"], unfollowed := true, recurses := true, apart := false }
def LevelsChecksSaid : Prop := levelsChecksRow.holds Try.pinned (OpenSpec.ofChange levelsChecksSpec)

/-- ITS FALSE NEIGHBOUR: 'it returns false'. Refute it at one input. -/
def levelsChecksWrong : ChangeSpec := { name := "levelsChecks", fn := fun _ => fun
  | [d1, d2] => { results := [.lit (.bool false)], args := [d1, d2] }
  | _ => none }
def LevelsChecksWrongFalsely : Prop := levelsChecksRow.holds Try.pinned (OpenSpec.ofChange levelsChecksWrong)

/-- 'tithebarnlaw15.LevelsKeeps': WHATEVER THE INPUT: true; the input reads as it did. -/
def levelsKeepsSpec : ChangeSpec := { name := "levelsKeeps", fn := fun _ => fun
  | [d1, d2] => { results := [.lit (.bool true)], args := [d1, d2] }
  | _ => none }
def levelsKeepsRow : OpenClaim := { program := "ytjefpogeknbelaa", sum := "93dd7cdf25ea456fb7f8ad6e569bb6255f834e9c078f9ae015cf9867ec4a92ed", func := "tithebarn/tithebarnlaw15.LevelsKeeps", spec := "levelsKeeps", inPlace := ["internal/bytealg.abigen_runtime_cmpstring", "slices.overlaps[tithebarn/levels.Meta]"], unfollowed := true, recurses := true, apart := false }
def LevelsKeepsSaid : Prop := levelsKeepsRow.holds Try.pinned (OpenSpec.ofChange levelsKeepsSpec)

/-- ITS FALSE NEIGHBOUR: 'it returns false'. Refute it at one input. -/
def levelsKeepsWrong : ChangeSpec := { name := "levelsKeeps", fn := fun _ => fun
  | [d1, d2] => { results := [.lit (.bool false)], args := [d1, d2] }
  | _ => none }
def LevelsKeepsWrongFalsely : Prop := levelsKeepsRow.holds Try.pinned (OpenSpec.ofChange levelsKeepsWrong)

/-- 'tithebarnlaw15.LevelsCovers': WHATEVER THE INPUT: true; the input reads as it did. -/
def levelsCoversSpec : ChangeSpec := { name := "levelsCovers", fn := fun _ => fun
  | [d1, d2, d3] => { results := [.lit (.bool true)], args := [d1, d2, d3] }
  | _ => none }
def levelsCoversRow : OpenClaim := { program := "ytjefpogeknbelaa", sum := "93dd7cdf25ea456fb7f8ad6e569bb6255f834e9c078f9ae015cf9867ec4a92ed", func := "tithebarn/tithebarnlaw15.LevelsCovers", spec := "levelsCovers", inPlace := ["internal/bytealg.abigen_runtime_cmpstring", "slices.overlaps[tithebarn/levels.Meta]"], unfollowed := true, recurses := true, apart := false }
def LevelsCoversSaid : Prop := levelsCoversRow.holds Try.pinned (OpenSpec.ofChange levelsCoversSpec)

/-- ITS FALSE NEIGHBOUR: 'it returns false'. Refute it at one input. -/
def levelsCoversWrong : ChangeSpec := { name := "levelsCovers", fn := fun _ => fun
  | [d1, d2, d3] => { results := [.lit (.bool false)], args := [d1, d2, d3] }
  | _ => none }
def LevelsCoversWrongFalsely : Prop := levelsCoversRow.holds Try.pinned (OpenSpec.ofChange levelsCoversWrong)

/-- 'tithebarnlaw15.LevelsFinds': WHATEVER THE INPUT: true; the input reads as it did. -/
def levelsFindsSpec : ChangeSpec := { name := "levelsFinds", fn := fun _ => fun
  | [d] => { results := [.lit (.bool true)], args := [d] }
  | _ => none }
def levelsFindsRow : OpenClaim := { program := "ytjefpogeknbelaa", sum := "93dd7cdf25ea456fb7f8ad6e569bb6255f834e9c078f9ae015cf9867ec4a92ed", func := "tithebarn/tithebarnlaw15.LevelsFinds", spec := "levelsFinds", inPlace := ["internal/bytealg.abigen_runtime_cmpstring", "slices.overlaps[tithebarn/levels.Meta]"], unfollowed := true, recurses := true, apart := false }
def LevelsFindsSaid : Prop := levelsFindsRow.holds Try.pinned (OpenSpec.ofChange levelsFindsSpec)

/-- ITS FALSE NEIGHBOUR: 'it returns false'. Refute it at one input. -/
def levelsFindsWrong : ChangeSpec := { name := "levelsFinds", fn := fun _ => fun
  | [d] => { results := [.lit (.bool false)], args := [d] }
  | _ => none }
def LevelsFindsWrongFalsely : Prop := levelsFindsRow.holds Try.pinned (OpenSpec.ofChange levelsFindsWrong)

/-- 'tithebarnlaw15.LevelsPlays': WHATEVER THE INPUT: true; the input reads as it did. -/
def levelsPlaysSpec : ChangeSpec := { name := "levelsPlays", fn := fun _ => fun
  | [d] => { results := [.lit (.bool true)], args := [d] }
  | _ => none }
def levelsPlaysRow : OpenClaim := { program := "ytjefpogeknbelaa", sum := "93dd7cdf25ea456fb7f8ad6e569bb6255f834e9c078f9ae015cf9867ec4a92ed", func := "tithebarn/tithebarnlaw15.LevelsPlays", spec := "levelsPlays", inPlace := ["internal/bytealg.abigen_runtime_cmpstring", "slices.overlaps[tithebarn/levels.Meta]"], unfollowed := true, recurses := true, apart := false }
def LevelsPlaysSaid : Prop := levelsPlaysRow.holds Try.pinned (OpenSpec.ofChange levelsPlaysSpec)

/-- ITS FALSE NEIGHBOUR: 'it returns false'. Refute it at one input. -/
def levelsPlaysWrong : ChangeSpec := { name := "levelsPlays", fn := fun _ => fun
  | [d] => { results := [.lit (.bool false)], args := [d] }
  | _ => none }
def LevelsPlaysWrongFalsely : Prop := levelsPlaysRow.holds Try.pinned (OpenSpec.ofChange levelsPlaysWrong)

/-- 'tithebarnlaw15.LevelsUndo': WHATEVER THE INPUT: true; the input reads as it did. -/
def levelsUndoSpec : ChangeSpec := { name := "levelsUndo", fn := fun _ => fun
  | [d1, d2] => { results := [.lit (.bool true)], args := [d1, d2] }
  | _ => none }
def levelsUndoRow : OpenClaim := { program := "ytjefpogeknbelaa", sum := "93dd7cdf25ea456fb7f8ad6e569bb6255f834e9c078f9ae015cf9867ec4a92ed", func := "tithebarn/tithebarnlaw15.LevelsUndo", spec := "levelsUndo", inPlace := ["internal/bytealg.abigen_runtime_cmpstring", "slices.overlaps[tithebarn/levels.Meta]"], unfollowed := true, recurses := true, apart := false }
def LevelsUndoSaid : Prop := levelsUndoRow.holds Try.pinned (OpenSpec.ofChange levelsUndoSpec)

/-- ITS FALSE NEIGHBOUR: 'it returns false'. Refute it at one input. -/
def levelsUndoWrong : ChangeSpec := { name := "levelsUndo", fn := fun _ => fun
  | [d1, d2] => { results := [.lit (.bool false)], args := [d1, d2] }
  | _ => none }
def LevelsUndoWrongFalsely : Prop := levelsUndoRow.holds Try.pinned (OpenSpec.ofChange levelsUndoWrong)

/- THE SECOND FORM. 'bulk': how many values and letters a reading holds, each counted each time it is reached (what is shared counts as often as it is met; a slice's spare places count too). A statement '..UptoSaid' is the law's where the arguments, and the package variables that the reading takes, are together of bulk at most 1048576: NARROWER than '..Said'. Prove '..Said' where nothing that the law and all that it calls make is longer than what came in: it says more and counts as full. Else prove '..UptoSaid'. A law counts once. -/
mutual
def uptoBulk {H : Type} : DataW H → Nat
  | .lit (.string bytes) => bytes.length + 1
  | .lit _ => 1
  | .nil => 1
  | .ptr d => uptoBulk d + 1
  | .slice elems spare => uptoBulkAll elems + uptoBulkAll spare + 1
  | .agg parts => uptoBulkAll parts + 1
  | .iface _ d => uptoBulk d + 1
  | .map entries => uptoBulkEntries entries + 1
  | .held _ => 1
def uptoBulkAll {H : Type} : List (DataW H) → Nat
  | [] => 0
  | d :: r => uptoBulk d + uptoBulkAll r
def uptoBulkEntries {H : Type} : List (Lit × DataW H) → Nat
  | [] => 0
  | x :: r => uptoBulkEntry x + uptoBulkEntries r
def uptoBulkEntry {H : Type} : Lit × DataW H → Nat
  | (.string bytes, d) => bytes.length + uptoBulk d + 1
  | (_, d) => uptoBulk d + 1
 end
def uptoSmall : (H : Type) → List (DataW H) → Bool := fun _ ds => decide (uptoBulkAll ds ≤ 1048576)
def OpenSpec.upto (s : _root_.Go.ChangeSpec) : _root_.Go.OpenSpec := { _root_.Go.OpenSpec.ofChange s with cond := some uptoSmall }

/-- 'tithebarnlaw15.LevelsChecks', WHERE WHAT IT READS IS OF BULK AT MOST 1048576: true; the input reads as it did. -/
def levelsChecksUptoRow : OpenClaim := { program := "ytjefpogeknbelaa", sum := "93dd7cdf25ea456fb7f8ad6e569bb6255f834e9c078f9ae015cf9867ec4a92ed", func := "tithebarn/tithebarnlaw15.LevelsChecks", spec := "levelsChecks", inPlace := ["internal/bytealg.abigen_runtime_cmpstring", "slices.overlaps[tithebarn/levels.Meta]"], unfollowed := true, recurses := true, apart := false, narrowed := true }
def LevelsChecksUptoSaid : Prop := levelsChecksUptoRow.holds Try.pinned (OpenSpec.upto levelsChecksSpec)

/-- 'tithebarnlaw15.LevelsKeeps', WHERE WHAT IT READS IS OF BULK AT MOST 1048576: true; the input reads as it did. -/
def levelsKeepsUptoRow : OpenClaim := { program := "ytjefpogeknbelaa", sum := "93dd7cdf25ea456fb7f8ad6e569bb6255f834e9c078f9ae015cf9867ec4a92ed", func := "tithebarn/tithebarnlaw15.LevelsKeeps", spec := "levelsKeeps", inPlace := ["internal/bytealg.abigen_runtime_cmpstring", "slices.overlaps[tithebarn/levels.Meta]"], unfollowed := true, recurses := true, apart := false, narrowed := true }
def LevelsKeepsUptoSaid : Prop := levelsKeepsUptoRow.holds Try.pinned (OpenSpec.upto levelsKeepsSpec)

/-- 'tithebarnlaw15.LevelsCovers', WHERE WHAT IT READS IS OF BULK AT MOST 1048576: true; the input reads as it did. -/
def levelsCoversUptoRow : OpenClaim := { program := "ytjefpogeknbelaa", sum := "93dd7cdf25ea456fb7f8ad6e569bb6255f834e9c078f9ae015cf9867ec4a92ed", func := "tithebarn/tithebarnlaw15.LevelsCovers", spec := "levelsCovers", inPlace := ["internal/bytealg.abigen_runtime_cmpstring", "slices.overlaps[tithebarn/levels.Meta]"], unfollowed := true, recurses := true, apart := false, narrowed := true }
def LevelsCoversUptoSaid : Prop := levelsCoversUptoRow.holds Try.pinned (OpenSpec.upto levelsCoversSpec)

/-- 'tithebarnlaw15.LevelsFinds', WHERE WHAT IT READS IS OF BULK AT MOST 1048576: true; the input reads as it did. -/
def levelsFindsUptoRow : OpenClaim := { program := "ytjefpogeknbelaa", sum := "93dd7cdf25ea456fb7f8ad6e569bb6255f834e9c078f9ae015cf9867ec4a92ed", func := "tithebarn/tithebarnlaw15.LevelsFinds", spec := "levelsFinds", inPlace := ["internal/bytealg.abigen_runtime_cmpstring", "slices.overlaps[tithebarn/levels.Meta]"], unfollowed := true, recurses := true, apart := false, narrowed := true }
def LevelsFindsUptoSaid : Prop := levelsFindsUptoRow.holds Try.pinned (OpenSpec.upto levelsFindsSpec)

/-- 'tithebarnlaw15.LevelsPlays', WHERE WHAT IT READS IS OF BULK AT MOST 1048576: true; the input reads as it did. -/
def levelsPlaysUptoRow : OpenClaim := { program := "ytjefpogeknbelaa", sum := "93dd7cdf25ea456fb7f8ad6e569bb6255f834e9c078f9ae015cf9867ec4a92ed", func := "tithebarn/tithebarnlaw15.LevelsPlays", spec := "levelsPlays", inPlace := ["internal/bytealg.abigen_runtime_cmpstring", "slices.overlaps[tithebarn/levels.Meta]"], unfollowed := true, recurses := true, apart := false, narrowed := true }
def LevelsPlaysUptoSaid : Prop := levelsPlaysUptoRow.holds Try.pinned (OpenSpec.upto levelsPlaysSpec)

/-- 'tithebarnlaw15.LevelsUndo', WHERE WHAT IT READS IS OF BULK AT MOST 1048576: true; the input reads as it did. -/
def levelsUndoUptoRow : OpenClaim := { program := "ytjefpogeknbelaa", sum := "93dd7cdf25ea456fb7f8ad6e569bb6255f834e9c078f9ae015cf9867ec4a92ed", func := "tithebarn/tithebarnlaw15.LevelsUndo", spec := "levelsUndo", inPlace := ["internal/bytealg.abigen_runtime_cmpstring", "slices.overlaps[tithebarn/levels.Meta]"], unfollowed := true, recurses := true, apart := false, narrowed := true }
def LevelsUndoUptoSaid : Prop := levelsUndoUptoRow.holds Try.pinned (OpenSpec.upto levelsUndoSpec)

end Rows
end Go.Proofs.Ytjefpogeknbelaa
