/-
  No cell of these rows narrows 'for every input' (looked for: loops, veiled, ifaces, maps, wideKeys, modest, calm, conditions, laid).
  DERIVED. THE GIVEN ROWS OF THIS SEAT. 6 by the template 'for every input the law returns true; each argument reads behind the call as it read before'; 0 by the template 'total and deterministic' (their statements: YthjjelomlgmllaaTotals.lean).
  GIVEN WITH THE SEED: the statements are not yours to turn. If you find one false, say at which input.
  Laid BY PROGRAM, IN A SANDBOX (cutbox-rows.mjs): the forced cells as the released guide's own fill.sh prints them over the translation a2f2207d914403c9… (all of the seat's roots in one cut). By AI agents, Wed Nov 11 2026. No macro, syntax, notation, axiom, sorry.
-/
import Derived.Test.YthjjelomlgmllaaChecked
import GoSem.Claim
import GoSem.ClaimJoined
import GoSem.ClaimMapViews
import Derived.JoinedTies
import Derived.KernelRfl
namespace Go.Proofs.Ythjjelomlgmllaa
/- THE CELL 'sum', in the pinned program and in every row, IS THE sha256 OF THE DUMP (.gsa) THAT YthjjelomlgmllaaProg.lean LOADS. Nothing in Lean hashes anything: it is a label: what it is worth is what the hold of that sum in a sandbox is worth. -/
noncomputable def Try.pinned : Pinned := { name := "ythjjelomlgmllaa", sum := "a2f2207d914403c99d32aaceed235aa9dcddeaef7f31881115fb6c0298295fae", checked := Try.checked }
namespace Rows
def none {H : Type} : Left H := { results := [], args := [] }

/-- 'tithebarnlaw16.ManifestBack': WHATEVER THE INPUT: true; the input reads as it did. -/
def manifestBackSpec : ChangeSpec := { name := "manifestBack", fn := fun _ => fun
  | [d] => { results := [.lit (.bool true)], args := [d] }
  | _ => none }
def manifestBackRow : OpenClaim := { program := "ythjjelomlgmllaa", sum := "a2f2207d914403c99d32aaceed235aa9dcddeaef7f31881115fb6c0298295fae", func := "tithebarn/tithebarnlaw16.ManifestBack", spec := "manifestBack", inPlace := ["internal/bytealg.abigen_runtime_cmpstring", "slices.overlaps[tithebarn/levels.Meta]"], unfollowed := true, recurses := true, apart := false }
def ManifestBackSaid : Prop := manifestBackRow.holds Try.pinned (OpenSpec.ofChange manifestBackSpec)

/-- ITS FALSE NEIGHBOUR: 'it returns false'. Refute it at one input. -/
def manifestBackWrong : ChangeSpec := { name := "manifestBack", fn := fun _ => fun
  | [d] => { results := [.lit (.bool false)], args := [d] }
  | _ => none }
def ManifestBackWrongFalsely : Prop := manifestBackRow.holds Try.pinned (OpenSpec.ofChange manifestBackWrong)

/-- 'tithebarnlaw16.ManifestParses': WHATEVER THE INPUT: true; the input reads as it did. -/
def manifestParsesSpec : ChangeSpec := { name := "manifestParses", fn := fun _ => fun
  | [d] => { results := [.lit (.bool true)], args := [d] }
  | _ => none }
def manifestParsesRow : OpenClaim := { program := "ythjjelomlgmllaa", sum := "a2f2207d914403c99d32aaceed235aa9dcddeaef7f31881115fb6c0298295fae", func := "tithebarn/tithebarnlaw16.ManifestParses", spec := "manifestParses", inPlace := ["internal/bytealg.abigen_runtime_cmpstring", "slices.overlaps[tithebarn/levels.Meta]"], unfollowed := true, recurses := true, apart := false }
def ManifestParsesSaid : Prop := manifestParsesRow.holds Try.pinned (OpenSpec.ofChange manifestParsesSpec)

/-- ITS FALSE NEIGHBOUR: 'it returns false'. Refute it at one input. -/
def manifestParsesWrong : ChangeSpec := { name := "manifestParses", fn := fun _ => fun
  | [d] => { results := [.lit (.bool false)], args := [d] }
  | _ => none }
def ManifestParsesWrongFalsely : Prop := manifestParsesRow.holds Try.pinned (OpenSpec.ofChange manifestParsesWrong)

/-- 'tithebarnlaw16.ManifestSupers': WHATEVER THE INPUT: true; the input reads as it did. -/
def manifestSupersSpec : ChangeSpec := { name := "manifestSupers", fn := fun _ => fun
  | [d1, d2] => { results := [.lit (.bool true)], args := [d1, d2] }
  | _ => none }
def manifestSupersRow : OpenClaim := { program := "ythjjelomlgmllaa", sum := "a2f2207d914403c99d32aaceed235aa9dcddeaef7f31881115fb6c0298295fae", func := "tithebarn/tithebarnlaw16.ManifestSupers", spec := "manifestSupers", inPlace := ["internal/bytealg.abigen_runtime_cmpstring", "slices.overlaps[tithebarn/levels.Meta]"], unfollowed := true, recurses := true, apart := false }
def ManifestSupersSaid : Prop := manifestSupersRow.holds Try.pinned (OpenSpec.ofChange manifestSupersSpec)

/-- ITS FALSE NEIGHBOUR: 'it returns false'. Refute it at one input. -/
def manifestSupersWrong : ChangeSpec := { name := "manifestSupers", fn := fun _ => fun
  | [d1, d2] => { results := [.lit (.bool false)], args := [d1, d2] }
  | _ => none }
def ManifestSupersWrongFalsely : Prop := manifestSupersRow.holds Try.pinned (OpenSpec.ofChange manifestSupersWrong)

/-- 'tithebarnlaw16.ManifestJunk': WHATEVER THE INPUT: true; the input reads as it did. -/
def manifestJunkSpec : ChangeSpec := { name := "manifestJunk", fn := fun _ => fun
  | [d1, d2] => { results := [.lit (.bool true)], args := [d1, d2] }
  | _ => none }
def manifestJunkRow : OpenClaim := { program := "ythjjelomlgmllaa", sum := "a2f2207d914403c99d32aaceed235aa9dcddeaef7f31881115fb6c0298295fae", func := "tithebarn/tithebarnlaw16.ManifestJunk", spec := "manifestJunk", inPlace := ["internal/bytealg.abigen_runtime_cmpstring", "slices.overlaps[tithebarn/levels.Meta]"], unfollowed := true, recurses := true, apart := false }
def ManifestJunkSaid : Prop := manifestJunkRow.holds Try.pinned (OpenSpec.ofChange manifestJunkSpec)

/-- ITS FALSE NEIGHBOUR: 'it returns false'. Refute it at one input. -/
def manifestJunkWrong : ChangeSpec := { name := "manifestJunk", fn := fun _ => fun
  | [d1, d2] => { results := [.lit (.bool false)], args := [d1, d2] }
  | _ => none }
def ManifestJunkWrongFalsely : Prop := manifestJunkRow.holds Try.pinned (OpenSpec.ofChange manifestJunkWrong)

/-- 'tithebarnlaw16.ManifestReplays': WHATEVER THE INPUT: true; the input reads as it did. -/
def manifestReplaysSpec : ChangeSpec := { name := "manifestReplays", fn := fun _ => fun
  | [d] => { results := [.lit (.bool true)], args := [d] }
  | _ => none }
def manifestReplaysRow : OpenClaim := { program := "ythjjelomlgmllaa", sum := "a2f2207d914403c99d32aaceed235aa9dcddeaef7f31881115fb6c0298295fae", func := "tithebarn/tithebarnlaw16.ManifestReplays", spec := "manifestReplays", inPlace := ["internal/bytealg.abigen_runtime_cmpstring", "slices.overlaps[tithebarn/levels.Meta]"], unfollowed := true, recurses := true, apart := false }
def ManifestReplaysSaid : Prop := manifestReplaysRow.holds Try.pinned (OpenSpec.ofChange manifestReplaysSpec)

/-- ITS FALSE NEIGHBOUR: 'it returns false'. Refute it at one input. -/
def manifestReplaysWrong : ChangeSpec := { name := "manifestReplays", fn := fun _ => fun
  | [d] => { results := [.lit (.bool false)], args := [d] }
  | _ => none }
def ManifestReplaysWrongFalsely : Prop := manifestReplaysRow.holds Try.pinned (OpenSpec.ofChange manifestReplaysWrong)

/-- 'tithebarnlaw16.ManifestWhole': WHATEVER THE INPUT: true; the input reads as it did. -/
def manifestWholeSpec : ChangeSpec := { name := "manifestWhole", fn := fun _ => fun
  | [d1, d2] => { results := [.lit (.bool true)], args := [d1, d2] }
  | _ => none }
def manifestWholeRow : OpenClaim := { program := "ythjjelomlgmllaa", sum := "a2f2207d914403c99d32aaceed235aa9dcddeaef7f31881115fb6c0298295fae", func := "tithebarn/tithebarnlaw16.ManifestWhole", spec := "manifestWhole", inPlace := ["internal/bytealg.abigen_runtime_cmpstring", "slices.overlaps[tithebarn/levels.Meta]"], unfollowed := true, recurses := true, apart := false }
def ManifestWholeSaid : Prop := manifestWholeRow.holds Try.pinned (OpenSpec.ofChange manifestWholeSpec)

/-- ITS FALSE NEIGHBOUR: 'it returns false'. Refute it at one input. -/
def manifestWholeWrong : ChangeSpec := { name := "manifestWhole", fn := fun _ => fun
  | [d1, d2] => { results := [.lit (.bool false)], args := [d1, d2] }
  | _ => none }
def ManifestWholeWrongFalsely : Prop := manifestWholeRow.holds Try.pinned (OpenSpec.ofChange manifestWholeWrong)

/- THE SECOND FORM. 'bulk': how many values and letters a reading holds, each counted each time it is reached (what is shared counts as often as it is met; a slice's spare places count too). A statement '..UptoSaid' is the law's where the arguments, and the package variables that the reading takes, are together of bulk at most 1048576: NARROWER than '..Said'. Prove '..Said' where nothing that the law and all that it calls make is longer than what came in: it says more and counts as full. Else prove '..UptoSaid'. A law counts once. -/
mutual
def uptoBulk {H : Type} : DataW H → Nat
  | .lit (.string bytes) => bytes.length + 1
  | .lit _ => 1
  | .nil => 1
  | .ptr d => uptoBulk d + 1
  | .slice elems spare => uptoBulkAll elems + uptoBulkAll spare + 1
  | .agg parts => uptoBulkAll parts + 1
  | .iface _ d => uptoBulk d + 1
  | .map entries => uptoBulkEntries entries + 1
  | .held _ => 1
def uptoBulkAll {H : Type} : List (DataW H) → Nat
  | [] => 0
  | d :: r => uptoBulk d + uptoBulkAll r
def uptoBulkEntries {H : Type} : List (Lit × DataW H) → Nat
  | [] => 0
  | x :: r => uptoBulkEntry x + uptoBulkEntries r
def uptoBulkEntry {H : Type} : Lit × DataW H → Nat
  | (.string bytes, d) => bytes.length + uptoBulk d + 1
  | (_, d) => uptoBulk d + 1
 end
def uptoSmall : (H : Type) → List (DataW H) → Bool := fun _ ds => decide (uptoBulkAll ds ≤ 1048576)
def OpenSpec.upto (s : _root_.Go.ChangeSpec) : _root_.Go.OpenSpec := { _root_.Go.OpenSpec.ofChange s with cond := some uptoSmall }

/-- 'tithebarnlaw16.ManifestBack', WHERE WHAT IT READS IS OF BULK AT MOST 1048576: true; the input reads as it did. -/
def manifestBackUptoRow : OpenClaim := { program := "ythjjelomlgmllaa", sum := "a2f2207d914403c99d32aaceed235aa9dcddeaef7f31881115fb6c0298295fae", func := "tithebarn/tithebarnlaw16.ManifestBack", spec := "manifestBack", inPlace := ["internal/bytealg.abigen_runtime_cmpstring", "slices.overlaps[tithebarn/levels.Meta]"], unfollowed := true, recurses := true, apart := false, narrowed := true }
def ManifestBackUptoSaid : Prop := manifestBackUptoRow.holds Try.pinned (OpenSpec.upto manifestBackSpec)

/-- 'tithebarnlaw16.ManifestParses', WHERE WHAT IT READS IS OF BULK AT MOST 1048576: true; the input reads as it did. -/
def manifestParsesUptoRow : OpenClaim := { program := "ythjjelomlgmllaa", sum := "a2f2207d914403c99d32aaceed235aa9dcddeaef7f31881115fb6c0298295fae", func := "tithebarn/tithebarnlaw16.ManifestParses", spec := "manifestParses", inPlace := ["internal/bytealg.abigen_runtime_cmpstring", "slices.overlaps[tithebarn/levels.Meta]"], unfollowed := true, recurses := true, apart := false, narrowed := true }
def ManifestParsesUptoSaid : Prop := manifestParsesUptoRow.holds Try.pinned (OpenSpec.upto manifestParsesSpec)

/-- 'tithebarnlaw16.ManifestSupers', WHERE WHAT IT READS IS OF BULK AT MOST 1048576: true; the input reads as it did. -/
def manifestSupersUptoRow : OpenClaim := { program := "ythjjelomlgmllaa", sum := "a2f2207d914403c99d32aaceed235aa9dcddeaef7f31881115fb6c0298295fae", func := "tithebarn/tithebarnlaw16.ManifestSupers", spec := "manifestSupers", inPlace := ["internal/bytealg.abigen_runtime_cmpstring", "slices.overlaps[tithebarn/levels.Meta]"], unfollowed := true, recurses := true, apart := false, narrowed := true }
def ManifestSupersUptoSaid : Prop := manifestSupersUptoRow.holds Try.pinned (OpenSpec.upto manifestSupersSpec)

/-- 'tithebarnlaw16.ManifestJunk', WHERE WHAT IT READS IS OF BULK AT MOST 1048576: true; the input reads as it did. -/
def manifestJunkUptoRow : OpenClaim := { program := "ythjjelomlgmllaa", sum := "a2f2207d914403c99d32aaceed235aa9dcddeaef7f31881115fb6c0298295fae", func := "tithebarn/tithebarnlaw16.ManifestJunk", spec := "manifestJunk", inPlace := ["internal/bytealg.abigen_runtime_cmpstring", "slices.overlaps[tithebarn/levels.Meta]"], unfollowed := true, recurses := true, apart := false, narrowed := true }
def ManifestJunkUptoSaid : Prop := manifestJunkUptoRow.holds Try.pinned (OpenSpec.upto manifestJunkSpec)

/-- 'tithebarnlaw16.ManifestReplays', WHERE WHAT IT READS IS OF BULK AT MOST 1048576: true; the input reads as it did. -/
def manifestReplaysUptoRow : OpenClaim := { program := "ythjjelomlgmllaa", sum := "a2f2207d914403c99d32aaceed235aa9dcddeaef7f31881115fb6c0298295fae", func := "tithebarn/tithebarnlaw16.ManifestReplays", spec := "manifestReplays", inPlace := ["internal/bytealg.abigen_runtime_cmpstring", "slices.overlaps[tithebarn/levels.Meta]"], unfollowed := true, recurses := true, apart := false, narrowed := true }
def ManifestReplaysUptoSaid : Prop := manifestReplaysUptoRow.holds Try.pinned (OpenSpec.upto manifestReplaysSpec)

/-- 'tithebarnlaw16.ManifestWhole', WHERE WHAT IT READS IS OF BULK AT MOST 1048576: true; the input reads as it did. -/
def manifestWholeUptoRow : OpenClaim := { program := "ythjjelomlgmllaa", sum := "a2f2207d914403c99d32aaceed235aa9dcddeaef7f31881115fb6c0298295fae", func := "tithebarn/tithebarnlaw16.ManifestWhole", spec := "manifestWhole", inPlace := ["internal/bytealg.abigen_runtime_cmpstring", "slices.overlaps[tithebarn/levels.Meta]"], unfollowed := true, recurses := true, apart := false, narrowed := true }
def ManifestWholeUptoSaid : Prop := manifestWholeUptoRow.holds Try.pinned (OpenSpec.upto manifestWholeSpec)

end Rows
end Go.Proofs.Ythjjelomlgmllaa
