/-
  No cell of these rows narrows 'for every input' (looked for: loops, veiled, ifaces, maps, wideKeys, modest, calm, conditions, laid).
  DERIVED. THE GIVEN ROWS OF THIS SEAT. 5 by the template 'for every input the law returns true; each argument reads behind the call as it read before'; 0 by the template 'total and deterministic' (their statements: YtkjfjcigmmooiaaTotals.lean).
  GIVEN WITH THE SEED: the statements are not yours to turn. If you find one false, say at which input.
  Laid BY PROGRAM, IN A SANDBOX (cutbox-rows.mjs): the forced cells as the released guide's own fill.sh prints them over the translation f99cf7f08f15b75e… (all of the seat's roots in one cut). By AI agents, Wed Nov 11 2026. No macro, syntax, notation, axiom, sorry.
-/
import Derived.Test.YtkjfjcigmmooiaaChecked
import GoSem.Claim
import GoSem.ClaimJoined
import GoSem.ClaimMapViews
import Derived.JoinedTies
import Derived.KernelRfl
namespace Go.Proofs.Ytkjfjcigmmooiaa
/- THE CELL 'sum', in the pinned program and in every row, IS THE sha256 OF THE DUMP (.gsa) THAT YtkjfjcigmmooiaaProg.lean LOADS. Nothing in Lean hashes anything: it is a label: what it is worth is what the hold of that sum in a sandbox is worth. -/
noncomputable def Try.pinned : Pinned := { name := "ytkjfjcigmmooiaa", sum := "f99cf7f08f15b75e5c0a29afc2b939fa18cfc5e4ea33d644ea0d258ae3d7808d", checked := Try.checked }
namespace Rows
def none {H : Type} : Left H := { results := [], args := [] }

/-- 'tithebarnlaw19.CompactCuts': WHATEVER THE INPUT: true; the input reads as it did. -/
def compactCutsSpec : ChangeSpec := { name := "compactCuts", fn := fun _ => fun
  | [d1, d2] => { results := [.lit (.bool true)], args := [d1, d2] }
  | _ => none }
def compactCutsRow : OpenClaim := { program := "ytkjfjcigmmooiaa", sum := "f99cf7f08f15b75e5c0a29afc2b939fa18cfc5e4ea33d644ea0d258ae3d7808d", func := "tithebarn/tithebarnlaw19.CompactCuts", spec := "compactCuts", inPlace := ["internal/bytealg.abigen_runtime_cmpstring"], unfollowed := true, recurses := true, plainKeys := false, apart := false }
def CompactCutsSaid : Prop := compactCutsRow.holds Try.pinned (OpenSpec.ofChange compactCutsSpec)

/-- ITS FALSE NEIGHBOUR: 'it returns false'. Refute it at one input. -/
def compactCutsWrong : ChangeSpec := { name := "compactCuts", fn := fun _ => fun
  | [d1, d2] => { results := [.lit (.bool false)], args := [d1, d2] }
  | _ => none }
def CompactCutsWrongFalsely : Prop := compactCutsRow.holds Try.pinned (OpenSpec.ofChange compactCutsWrong)

/-- 'tithebarnlaw19.CompactMetas': WHATEVER THE INPUT: true; the input reads as it did. -/
def compactMetasSpec : ChangeSpec := { name := "compactMetas", fn := fun _ => fun
  | [d1, d2, d3] => { results := [.lit (.bool true)], args := [d1, d2, d3] }
  | _ => none }
def compactMetasRow : OpenClaim := { program := "ytkjfjcigmmooiaa", sum := "f99cf7f08f15b75e5c0a29afc2b939fa18cfc5e4ea33d644ea0d258ae3d7808d", func := "tithebarn/tithebarnlaw19.CompactMetas", spec := "compactMetas", inPlace := ["internal/bytealg.abigen_runtime_cmpstring"], unfollowed := true, recurses := true, plainKeys := false, apart := false }
def CompactMetasSaid : Prop := compactMetasRow.holds Try.pinned (OpenSpec.ofChange compactMetasSpec)

/-- ITS FALSE NEIGHBOUR: 'it returns false'. Refute it at one input. -/
def compactMetasWrong : ChangeSpec := { name := "compactMetas", fn := fun _ => fun
  | [d1, d2, d3] => { results := [.lit (.bool false)], args := [d1, d2, d3] }
  | _ => none }
def CompactMetasWrongFalsely : Prop := compactMetasRow.holds Try.pinned (OpenSpec.ofChange compactMetasWrong)

/-- 'tithebarnlaw19.CompactKeeps': WHATEVER THE INPUT: true; the input reads as it did. -/
def compactKeepsSpec : ChangeSpec := { name := "compactKeeps", fn := fun _ => fun
  | [d] => { results := [.lit (.bool true)], args := [d] }
  | _ => none }
def compactKeepsRow : OpenClaim := { program := "ytkjfjcigmmooiaa", sum := "f99cf7f08f15b75e5c0a29afc2b939fa18cfc5e4ea33d644ea0d258ae3d7808d", func := "tithebarn/tithebarnlaw19.CompactKeeps", spec := "compactKeeps", inPlace := ["internal/bytealg.abigen_runtime_cmpstring", "slices.overlaps[tithebarn/levels.Meta]"], unfollowed := true, recurses := true, plainKeys := false, apart := false }
def CompactKeepsSaid : Prop := compactKeepsRow.holds Try.pinned (OpenSpec.ofChange compactKeepsSpec)

/-- ITS FALSE NEIGHBOUR: 'it returns false'. Refute it at one input. -/
def compactKeepsWrong : ChangeSpec := { name := "compactKeeps", fn := fun _ => fun
  | [d] => { results := [.lit (.bool false)], args := [d] }
  | _ => none }
def CompactKeepsWrongFalsely : Prop := compactKeepsRow.holds Try.pinned (OpenSpec.ofChange compactKeepsWrong)

/-- 'tithebarnlaw19.CompactOnce': WHATEVER THE INPUT: true; the input reads as it did. -/
def compactOnceSpec : ChangeSpec := { name := "compactOnce", fn := fun _ => fun
  | [d1, d2] => { results := [.lit (.bool true)], args := [d1, d2] }
  | _ => none }
def compactOnceRow : OpenClaim := { program := "ytkjfjcigmmooiaa", sum := "f99cf7f08f15b75e5c0a29afc2b939fa18cfc5e4ea33d644ea0d258ae3d7808d", func := "tithebarn/tithebarnlaw19.CompactOnce", spec := "compactOnce", inPlace := ["internal/bytealg.abigen_runtime_cmpstring", "slices.overlaps[tithebarn/levels.Meta]"], unfollowed := true, recurses := true, plainKeys := false, apart := false }
def CompactOnceSaid : Prop := compactOnceRow.holds Try.pinned (OpenSpec.ofChange compactOnceSpec)

/-- ITS FALSE NEIGHBOUR: 'it returns false'. Refute it at one input. -/
def compactOnceWrong : ChangeSpec := { name := "compactOnce", fn := fun _ => fun
  | [d1, d2] => { results := [.lit (.bool false)], args := [d1, d2] }
  | _ => none }
def CompactOnceWrongFalsely : Prop := compactOnceRow.holds Try.pinned (OpenSpec.ofChange compactOnceWrong)

/-- 'tithebarnlaw19.CompactSees': WHATEVER THE INPUT: true; the input reads as it did. -/
def compactSeesSpec : ChangeSpec := { name := "compactSees", fn := fun _ => fun
  | [d] => { results := [.lit (.bool true)], args := [d] }
  | _ => none }
def compactSeesRow : OpenClaim := { program := "ytkjfjcigmmooiaa", sum := "f99cf7f08f15b75e5c0a29afc2b939fa18cfc5e4ea33d644ea0d258ae3d7808d", func := "tithebarn/tithebarnlaw19.CompactSees", spec := "compactSees", inPlace := ["internal/bytealg.abigen_runtime_cmpstring", "slices.overlaps[tithebarn/levels.Meta]"], unfollowed := true, recurses := true, plainKeys := false, apart := false }
def CompactSeesSaid : Prop := compactSeesRow.holds Try.pinned (OpenSpec.ofChange compactSeesSpec)

/-- ITS FALSE NEIGHBOUR: 'it returns false'. Refute it at one input. -/
def compactSeesWrong : ChangeSpec := { name := "compactSees", fn := fun _ => fun
  | [d] => { results := [.lit (.bool false)], args := [d] }
  | _ => none }
def CompactSeesWrongFalsely : Prop := compactSeesRow.holds Try.pinned (OpenSpec.ofChange compactSeesWrong)

/- THE SECOND FORM. 'bulk': how many values and letters a reading holds, each counted each time it is reached (what is shared counts as often as it is met; a slice's spare places count too). A statement '..UptoSaid' is the law's where the arguments, and the package variables that the reading takes, are together of bulk at most 1048576: NARROWER than '..Said'. Prove '..Said' where nothing that the law and all that it calls make is longer than what came in: it says more and counts as full. Else prove '..UptoSaid'. A law counts once. -/
mutual
def uptoBulk {H : Type} : DataW H → Nat
  | .lit (.string bytes) => bytes.length + 1
  | .lit _ => 1
  | .nil => 1
  | .ptr d => uptoBulk d + 1
  | .slice elems spare => uptoBulkAll elems + uptoBulkAll spare + 1
  | .agg parts => uptoBulkAll parts + 1
  | .iface _ d => uptoBulk d + 1
  | .map entries => uptoBulkEntries entries + 1
  | .held _ => 1
def uptoBulkAll {H : Type} : List (DataW H) → Nat
  | [] => 0
  | d :: r => uptoBulk d + uptoBulkAll r
def uptoBulkEntries {H : Type} : List (Lit × DataW H) → Nat
  | [] => 0
  | x :: r => uptoBulkEntry x + uptoBulkEntries r
def uptoBulkEntry {H : Type} : Lit × DataW H → Nat
  | (.string bytes, d) => bytes.length + uptoBulk d + 1
  | (_, d) => uptoBulk d + 1
 end
def uptoSmall : (H : Type) → List (DataW H) → Bool := fun _ ds => decide (uptoBulkAll ds ≤ 1048576)
def OpenSpec.upto (s : _root_.Go.ChangeSpec) : _root_.Go.OpenSpec := { _root_.Go.OpenSpec.ofChange s with cond := some uptoSmall }

/-- 'tithebarnlaw19.CompactCuts', WHERE WHAT IT READS IS OF BULK AT MOST 1048576: true; the input reads as it did. -/
def compactCutsUptoRow : OpenClaim := { program := "ytkjfjcigmmooiaa", sum := "f99cf7f08f15b75e5c0a29afc2b939fa18cfc5e4ea33d644ea0d258ae3d7808d", func := "tithebarn/tithebarnlaw19.CompactCuts", spec := "compactCuts", inPlace := ["internal/bytealg.abigen_runtime_cmpstring"], unfollowed := true, recurses := true, plainKeys := false, apart := false, narrowed := true }
def CompactCutsUptoSaid : Prop := compactCutsUptoRow.holds Try.pinned (OpenSpec.upto compactCutsSpec)

/-- 'tithebarnlaw19.CompactMetas', WHERE WHAT IT READS IS OF BULK AT MOST 1048576: true; the input reads as it did. -/
def compactMetasUptoRow : OpenClaim := { program := "ytkjfjcigmmooiaa", sum := "f99cf7f08f15b75e5c0a29afc2b939fa18cfc5e4ea33d644ea0d258ae3d7808d", func := "tithebarn/tithebarnlaw19.CompactMetas", spec := "compactMetas", inPlace := ["internal/bytealg.abigen_runtime_cmpstring"], unfollowed := true, recurses := true, plainKeys := false, apart := false, narrowed := true }
def CompactMetasUptoSaid : Prop := compactMetasUptoRow.holds Try.pinned (OpenSpec.upto compactMetasSpec)

/-- 'tithebarnlaw19.CompactKeeps', WHERE WHAT IT READS IS OF BULK AT MOST 1048576: true; the input reads as it did. -/
def compactKeepsUptoRow : OpenClaim := { program := "ytkjfjcigmmooiaa", sum := "f99cf7f08f15b75e5c0a29afc2b939fa18cfc5e4ea33d644ea0d258ae3d7808d", func := "tithebarn/tithebarnlaw19.CompactKeeps", spec := "compactKeeps", inPlace := ["internal/bytealg.abigen_runtime_cmpstring", "slices.overlaps[tithebarn/levels.Meta]"], unfollowed := true, recurses := true, plainKeys := false, apart := false, narrowed := true }
def CompactKeepsUptoSaid : Prop := compactKeepsUptoRow.holds Try.pinned (OpenSpec.upto compactKeepsSpec)

/-- 'tithebarnlaw19.CompactOnce', WHERE WHAT IT READS IS OF BULK AT MOST 1048576: true; the input reads as it did. -/
def compactOnceUptoRow : OpenClaim := { program := "ytkjfjcigmmooiaa", sum := "f99cf7f08f15b75e5c0a29afc2b939fa18cfc5e4ea33d644ea0d258ae3d7808d", func := "tithebarn/tithebarnlaw19.CompactOnce", spec := "compactOnce", inPlace := ["internal/bytealg.abigen_runtime_cmpstring", "slices.overlaps[tithebarn/levels.Meta]"], unfollowed := true, recurses := true, plainKeys := false, apart := false, narrowed := true }
def CompactOnceUptoSaid : Prop := compactOnceUptoRow.holds Try.pinned (OpenSpec.upto compactOnceSpec)

/-- 'tithebarnlaw19.CompactSees', WHERE WHAT IT READS IS OF BULK AT MOST 1048576: true; the input reads as it did. -/
def compactSeesUptoRow : OpenClaim := { program := "ytkjfjcigmmooiaa", sum := "f99cf7f08f15b75e5c0a29afc2b939fa18cfc5e4ea33d644ea0d258ae3d7808d", func := "tithebarn/tithebarnlaw19.CompactSees", spec := "compactSees", inPlace := ["internal/bytealg.abigen_runtime_cmpstring", "slices.overlaps[tithebarn/levels.Meta]"], unfollowed := true, recurses := true, plainKeys := false, apart := false, narrowed := true }
def CompactSeesUptoSaid : Prop := compactSeesUptoRow.holds Try.pinned (OpenSpec.upto compactSeesSpec)

end Rows
end Go.Proofs.Ytkjfjcigmmooiaa
