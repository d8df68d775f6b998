/-
  NARROWER THAN 'FOR EVERY INPUT', by the rows' own cells (each row's printed sentence says how): PickFull: laid · PickPlans: laid · PickFits: laid · PickDown: laid · PickJoins: laid.
  DERIVED. THE GIVEN ROWS OF THIS SEAT. 5 by the template 'for every input the law returns true; each argument reads behind the call as it read before'; 0 by the template 'total and deterministic' (their statements: YtcmndnglmpkpdaaDoorTotals.lean).
  GIVEN WITH THE SEED: the statements are not yours to turn. If you find one false, say at which input.
  Laid BY PROGRAM, IN A SANDBOX (cutbox-rows.mjs): the forced cells as the released guide's own fill.sh prints them over the translation 7173026c77391140… (all of the seat's roots in one cut). By AI agents, Wed Nov 11 2026. No macro, syntax, notation, axiom, sorry.
-/
import Derived.Test.YtcmndnglmpkpdaaDoorChecked
import GoSem.Claim
import GoSem.ClaimJoined
import GoSem.ClaimMapViews
import Derived.JoinedTies
import Derived.KernelRfl
namespace Go.Proofs.YtcmndnglmpkpdaaDoor
/- THE CELL 'sum', in the pinned program and in every row, IS THE sha256 OF THE DUMP (.gsa) THAT YtcmndnglmpkpdaaDoorProg.lean LOADS. Nothing in Lean hashes anything: it is a label: what it is worth is what the hold of that sum in a sandbox is worth. -/
noncomputable def Tryd.pinned : Pinned := { name := "ytcmndnglmpkpdaadoor", sum := "7173026c773911404d646f942f65a4611292584a5205590872490298e08b71df", checked := Tryd.checked }
namespace Rows
def none {H : Type} : Left H := { results := [], args := [] }

/- WHAT THE LISTED PACKAGE-LEVEL VARIABLES READ AS WHEN THE CALL BEGINS. Each datum BY PROGRAM (the guide's laid-datum.mjs) off the statement by which the dump's own 'gosem.cut.vars' lays the variable. In a bare row this is a premise. The card (YtcmndnglmpkpdaaDoorCards.lean) ties it to the program's text. -/
def laid_tithebarn_pick_caps {H : Type} : DataW H := .agg [.lit (.int .i64 2), .lit (.int .i64 4), .lit (.int .i64 8)]

/-- 'tithebarnlaw17.PickFull': WHATEVER THE INPUT: true; the input reads as it did. -/
def pickFullSpec : ChangeSpec := { name := "pickFull", fn := fun _ => fun
  | [d] => { results := [.lit (.bool true)], args := [d] }
  | _ => none }
def pickFullRow : OpenClaim := { program := "ytcmndnglmpkpdaadoor", sum := "7173026c773911404d646f942f65a4611292584a5205590872490298e08b71df", func := "tithebarn/tithebarnlaw17.PickFull", spec := "pickFull", inPlace := ["internal/bytealg.abigen_runtime_cmpstring", "slices.overlaps[tithebarn/levels.Meta]"], unfollowed := true, recurses := true, named := ["tithebarn/pick.caps"], apart := false, laid := [("tithebarn/pick.caps", laid_tithebarn_pick_caps)] }
def PickFullSaid : Prop := pickFullRow.holds Tryd.pinned (OpenSpec.ofChange pickFullSpec)

/-- ITS FALSE NEIGHBOUR: 'it returns false'. Refute it at one input. -/
def pickFullWrong : ChangeSpec := { name := "pickFull", fn := fun _ => fun
  | [d] => { results := [.lit (.bool false)], args := [d] }
  | _ => none }
def PickFullWrongFalsely : Prop := pickFullRow.holds Tryd.pinned (OpenSpec.ofChange pickFullWrong)

/-- 'tithebarnlaw17.PickPlans': WHATEVER THE INPUT: true; the input reads as it did. -/
def pickPlansSpec : ChangeSpec := { name := "pickPlans", fn := fun _ => fun
  | [d] => { results := [.lit (.bool true)], args := [d] }
  | _ => none }
def pickPlansRow : OpenClaim := { program := "ytcmndnglmpkpdaadoor", sum := "7173026c773911404d646f942f65a4611292584a5205590872490298e08b71df", func := "tithebarn/tithebarnlaw17.PickPlans", spec := "pickPlans", inPlace := ["internal/bytealg.abigen_runtime_cmpstring", "slices.overlaps[tithebarn/levels.Meta]"], unfollowed := true, recurses := true, named := ["tithebarn/pick.caps"], apart := false, laid := [("tithebarn/pick.caps", laid_tithebarn_pick_caps)] }
def PickPlansSaid : Prop := pickPlansRow.holds Tryd.pinned (OpenSpec.ofChange pickPlansSpec)

/-- ITS FALSE NEIGHBOUR: 'it returns false'. Refute it at one input. -/
def pickPlansWrong : ChangeSpec := { name := "pickPlans", fn := fun _ => fun
  | [d] => { results := [.lit (.bool false)], args := [d] }
  | _ => none }
def PickPlansWrongFalsely : Prop := pickPlansRow.holds Tryd.pinned (OpenSpec.ofChange pickPlansWrong)

/-- 'tithebarnlaw17.PickFits': WHATEVER THE INPUT: true; the input reads as it did. -/
def pickFitsSpec : ChangeSpec := { name := "pickFits", fn := fun _ => fun
  | [d] => { results := [.lit (.bool true)], args := [d] }
  | _ => none }
def pickFitsRow : OpenClaim := { program := "ytcmndnglmpkpdaadoor", sum := "7173026c773911404d646f942f65a4611292584a5205590872490298e08b71df", func := "tithebarn/tithebarnlaw17.PickFits", spec := "pickFits", inPlace := ["internal/bytealg.abigen_runtime_cmpstring", "slices.overlaps[tithebarn/levels.Meta]"], unfollowed := true, recurses := true, named := ["tithebarn/pick.caps"], apart := false, laid := [("tithebarn/pick.caps", laid_tithebarn_pick_caps)] }
def PickFitsSaid : Prop := pickFitsRow.holds Tryd.pinned (OpenSpec.ofChange pickFitsSpec)

/-- ITS FALSE NEIGHBOUR: 'it returns false'. Refute it at one input. -/
def pickFitsWrong : ChangeSpec := { name := "pickFits", fn := fun _ => fun
  | [d] => { results := [.lit (.bool false)], args := [d] }
  | _ => none }
def PickFitsWrongFalsely : Prop := pickFitsRow.holds Tryd.pinned (OpenSpec.ofChange pickFitsWrong)

/-- 'tithebarnlaw17.PickDown': WHATEVER THE INPUT: true; the input reads as it did. -/
def pickDownSpec : ChangeSpec := { name := "pickDown", fn := fun _ => fun
  | [d] => { results := [.lit (.bool true)], args := [d] }
  | _ => none }
def pickDownRow : OpenClaim := { program := "ytcmndnglmpkpdaadoor", sum := "7173026c773911404d646f942f65a4611292584a5205590872490298e08b71df", func := "tithebarn/tithebarnlaw17.PickDown", spec := "pickDown", inPlace := ["internal/bytealg.abigen_runtime_cmpstring", "slices.overlaps[tithebarn/levels.Meta]"], unfollowed := true, recurses := true, named := ["tithebarn/pick.caps"], apart := false, laid := [("tithebarn/pick.caps", laid_tithebarn_pick_caps)] }
def PickDownSaid : Prop := pickDownRow.holds Tryd.pinned (OpenSpec.ofChange pickDownSpec)

/-- ITS FALSE NEIGHBOUR: 'it returns false'. Refute it at one input. -/
def pickDownWrong : ChangeSpec := { name := "pickDown", fn := fun _ => fun
  | [d] => { results := [.lit (.bool false)], args := [d] }
  | _ => none }
def PickDownWrongFalsely : Prop := pickDownRow.holds Tryd.pinned (OpenSpec.ofChange pickDownWrong)

/-- 'tithebarnlaw17.PickJoins': WHATEVER THE INPUT: true; the input reads as it did. -/
def pickJoinsSpec : ChangeSpec := { name := "pickJoins", fn := fun _ => fun
  | [d1, d2, d3] => { results := [.lit (.bool true)], args := [d1, d2, d3] }
  | _ => none }
def pickJoinsRow : OpenClaim := { program := "ytcmndnglmpkpdaadoor", sum := "7173026c773911404d646f942f65a4611292584a5205590872490298e08b71df", func := "tithebarn/tithebarnlaw17.PickJoins", spec := "pickJoins", inPlace := ["internal/bytealg.abigen_runtime_cmpstring", "slices.overlaps[tithebarn/levels.Meta]"], unfollowed := true, recurses := true, named := ["tithebarn/pick.caps"], apart := false, laid := [("tithebarn/pick.caps", laid_tithebarn_pick_caps)] }
def PickJoinsSaid : Prop := pickJoinsRow.holds Tryd.pinned (OpenSpec.ofChange pickJoinsSpec)

/-- ITS FALSE NEIGHBOUR: 'it returns false'. Refute it at one input. -/
def pickJoinsWrong : ChangeSpec := { name := "pickJoins", fn := fun _ => fun
  | [d1, d2, d3] => { results := [.lit (.bool false)], args := [d1, d2, d3] }
  | _ => none }
def PickJoinsWrongFalsely : Prop := pickJoinsRow.holds Tryd.pinned (OpenSpec.ofChange pickJoinsWrong)

/- THE SECOND FORM. 'bulk': how many values and letters a reading holds, each counted each time it is reached (what is shared counts as often as it is met; a slice's spare places count too). A statement '..UptoSaid' is the law's where the arguments, and the package variables that the reading takes, are together of bulk at most 1048576: NARROWER than '..Said'. Prove '..Said' where nothing that the law and all that it calls make is longer than what came in: it says more and counts as full. Else prove '..UptoSaid'. A law counts once. -/
mutual
def uptoBulk {H : Type} : DataW H → Nat
  | .lit (.string bytes) => bytes.length + 1
  | .lit _ => 1
  | .nil => 1
  | .ptr d => uptoBulk d + 1
  | .slice elems spare => uptoBulkAll elems + uptoBulkAll spare + 1
  | .agg parts => uptoBulkAll parts + 1
  | .iface _ d => uptoBulk d + 1
  | .map entries => uptoBulkEntries entries + 1
  | .held _ => 1
def uptoBulkAll {H : Type} : List (DataW H) → Nat
  | [] => 0
  | d :: r => uptoBulk d + uptoBulkAll r
def uptoBulkEntries {H : Type} : List (Lit × DataW H) → Nat
  | [] => 0
  | x :: r => uptoBulkEntry x + uptoBulkEntries r
def uptoBulkEntry {H : Type} : Lit × DataW H → Nat
  | (.string bytes, d) => bytes.length + uptoBulk d + 1
  | (_, d) => uptoBulk d + 1
 end
def uptoSmall : (H : Type) → List (DataW H) → Bool := fun _ ds => decide (uptoBulkAll ds ≤ 1048576)
def OpenSpec.upto (s : _root_.Go.ChangeSpec) : _root_.Go.OpenSpec := { _root_.Go.OpenSpec.ofChange s with cond := some uptoSmall }

/-- 'tithebarnlaw17.PickFull', WHERE WHAT IT READS IS OF BULK AT MOST 1048576: true; the input reads as it did. -/
def pickFullUptoRow : OpenClaim := { program := "ytcmndnglmpkpdaadoor", sum := "7173026c773911404d646f942f65a4611292584a5205590872490298e08b71df", func := "tithebarn/tithebarnlaw17.PickFull", spec := "pickFull", inPlace := ["internal/bytealg.abigen_runtime_cmpstring", "slices.overlaps[tithebarn/levels.Meta]"], unfollowed := true, recurses := true, named := ["tithebarn/pick.caps"], apart := false, laid := [("tithebarn/pick.caps", laid_tithebarn_pick_caps)], narrowed := true }
def PickFullUptoSaid : Prop := pickFullUptoRow.holds Tryd.pinned (OpenSpec.upto pickFullSpec)

/-- 'tithebarnlaw17.PickPlans', WHERE WHAT IT READS IS OF BULK AT MOST 1048576: true; the input reads as it did. -/
def pickPlansUptoRow : OpenClaim := { program := "ytcmndnglmpkpdaadoor", sum := "7173026c773911404d646f942f65a4611292584a5205590872490298e08b71df", func := "tithebarn/tithebarnlaw17.PickPlans", spec := "pickPlans", inPlace := ["internal/bytealg.abigen_runtime_cmpstring", "slices.overlaps[tithebarn/levels.Meta]"], unfollowed := true, recurses := true, named := ["tithebarn/pick.caps"], apart := false, laid := [("tithebarn/pick.caps", laid_tithebarn_pick_caps)], narrowed := true }
def PickPlansUptoSaid : Prop := pickPlansUptoRow.holds Tryd.pinned (OpenSpec.upto pickPlansSpec)

/-- 'tithebarnlaw17.PickFits', WHERE WHAT IT READS IS OF BULK AT MOST 1048576: true; the input reads as it did. -/
def pickFitsUptoRow : OpenClaim := { program := "ytcmndnglmpkpdaadoor", sum := "7173026c773911404d646f942f65a4611292584a5205590872490298e08b71df", func := "tithebarn/tithebarnlaw17.PickFits", spec := "pickFits", inPlace := ["internal/bytealg.abigen_runtime_cmpstring", "slices.overlaps[tithebarn/levels.Meta]"], unfollowed := true, recurses := true, named := ["tithebarn/pick.caps"], apart := false, laid := [("tithebarn/pick.caps", laid_tithebarn_pick_caps)], narrowed := true }
def PickFitsUptoSaid : Prop := pickFitsUptoRow.holds Tryd.pinned (OpenSpec.upto pickFitsSpec)

/-- 'tithebarnlaw17.PickDown', WHERE WHAT IT READS IS OF BULK AT MOST 1048576: true; the input reads as it did. -/
def pickDownUptoRow : OpenClaim := { program := "ytcmndnglmpkpdaadoor", sum := "7173026c773911404d646f942f65a4611292584a5205590872490298e08b71df", func := "tithebarn/tithebarnlaw17.PickDown", spec := "pickDown", inPlace := ["internal/bytealg.abigen_runtime_cmpstring", "slices.overlaps[tithebarn/levels.Meta]"], unfollowed := true, recurses := true, named := ["tithebarn/pick.caps"], apart := false, laid := [("tithebarn/pick.caps", laid_tithebarn_pick_caps)], narrowed := true }
def PickDownUptoSaid : Prop := pickDownUptoRow.holds Tryd.pinned (OpenSpec.upto pickDownSpec)

/-- 'tithebarnlaw17.PickJoins', WHERE WHAT IT READS IS OF BULK AT MOST 1048576: true; the input reads as it did. -/
def pickJoinsUptoRow : OpenClaim := { program := "ytcmndnglmpkpdaadoor", sum := "7173026c773911404d646f942f65a4611292584a5205590872490298e08b71df", func := "tithebarn/tithebarnlaw17.PickJoins", spec := "pickJoins", inPlace := ["internal/bytealg.abigen_runtime_cmpstring", "slices.overlaps[tithebarn/levels.Meta]"], unfollowed := true, recurses := true, named := ["tithebarn/pick.caps"], apart := false, laid := [("tithebarn/pick.caps", laid_tithebarn_pick_caps)], narrowed := true }
def PickJoinsUptoSaid : Prop := pickJoinsUptoRow.holds Tryd.pinned (OpenSpec.upto pickJoinsSpec)

end Rows
end Go.Proofs.YtcmndnglmpkpdaaDoor
