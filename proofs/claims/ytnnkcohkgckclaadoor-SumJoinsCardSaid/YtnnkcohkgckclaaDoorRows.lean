/-
  NARROWER THAN 'FOR EVERY INPUT', by the rows' own cells (each row's printed sentence says how): SumIs: laid · SumMore: laid · SumTells: laid · SumJoins: laid · SumEnds: laid · SumMasks: laid · SumWords: laid.
  DERIVED. THE GIVEN ROWS OF THIS SEAT. 7 by the template 'for every input the law returns true; each argument reads behind the call as it read before'; 0 by the template 'total and deterministic' (their statements: YtnnkcohkgckclaaDoorTotals.lean).
  GIVEN WITH THE SEED: the statements are not yours to turn. If you find one false, say at which input.
  Laid BY PROGRAM, IN A SANDBOX (cutbox-rows.mjs): the forced cells as the released guide's own fill.sh prints them over the translation 83add419dc4dbfb3… (all of the seat's roots in one cut). By AI agents, Wed Nov 11 2026. No macro, syntax, notation, axiom, sorry.
-/
import Derived.Test.YtnnkcohkgckclaaDoorChecked
import GoSem.Claim
import GoSem.ClaimJoined
import GoSem.ClaimMapViews
import Derived.JoinedTies
import Derived.KernelRfl
namespace Go.Proofs.YtnnkcohkgckclaaDoor
/- THE CELL 'sum', in the pinned program and in every row, IS THE sha256 OF THE DUMP (.gsa) THAT YtnnkcohkgckclaaDoorProg.lean LOADS. Nothing in Lean hashes anything: it is a label: what it is worth is what the hold of that sum in a sandbox is worth. -/
noncomputable def Tryd.pinned : Pinned := { name := "ytnnkcohkgckclaadoor", sum := "83add419dc4dbfb36ca673df76b911e6e15b963d2ef0b5af690fa2081fda3a16", checked := Tryd.checked }
namespace Rows
def none {H : Type} : Left H := { results := [], args := [] }

/- WHAT THE LISTED PACKAGE-LEVEL VARIABLES READ AS WHEN THE CALL BEGINS. Each datum BY PROGRAM (the guide's laid-datum.mjs) off the statement by which the dump's own 'gosem.cut.vars' lays the variable. In a bare row this is a premise. The card (YtnnkcohkgckclaaDoorCards.lean) ties it to the program's text. -/
def laid_tithebarn_sum_half {H : Type} : DataW H := .agg [.lit (.int .u32 0), .lit (.int .u32 274646895), .lit (.int .u32 549293790), .lit (.int .u32 820201905), .lit (.int .u32 1098587580), .lit (.int .u32 1361435347), .lit (.int .u32 1640403810), .lit (.int .u32 1905808397), .lit (.int .u32 2197175160), .lit (.int .u32 2460548119), .lit (.int .u32 2722870694), .lit (.int .u32 2987750089), .lit (.int .u32 3280807620), .lit (.int .u32 3553878443), .lit (.int .u32 3811616794), .lit (.int .u32 4084100981)]

/-- 'tithebarnlaw01.SumIs': WHATEVER THE INPUT: true; the input reads as it did. -/
def sumIsSpec : ChangeSpec := { name := "sumIs", fn := fun _ => fun
  | [d] => { results := [.lit (.bool true)], args := [d] }
  | _ => none }
def sumIsRow : OpenClaim := { program := "ytnnkcohkgckclaadoor", sum := "83add419dc4dbfb36ca673df76b911e6e15b963d2ef0b5af690fa2081fda3a16", func := "tithebarn/tithebarnlaw01.SumIs", spec := "sumIs", named := ["tithebarn/sum.half"], apart := false, laid := [("tithebarn/sum.half", laid_tithebarn_sum_half)] }
def SumIsSaid : Prop := sumIsRow.holds Tryd.pinned (OpenSpec.ofChange sumIsSpec)

/-- ITS FALSE NEIGHBOUR: 'it returns false'. Refute it at one input. -/
def sumIsWrong : ChangeSpec := { name := "sumIs", fn := fun _ => fun
  | [d] => { results := [.lit (.bool false)], args := [d] }
  | _ => none }
def SumIsWrongFalsely : Prop := sumIsRow.holds Tryd.pinned (OpenSpec.ofChange sumIsWrong)

/-- 'tithebarnlaw01.SumMore': WHATEVER THE INPUT: true; the input reads as it did. -/
def sumMoreSpec : ChangeSpec := { name := "sumMore", fn := fun _ => fun
  | [d1, d2] => { results := [.lit (.bool true)], args := [d1, d2] }
  | _ => none }
def sumMoreRow : OpenClaim := { program := "ytnnkcohkgckclaadoor", sum := "83add419dc4dbfb36ca673df76b911e6e15b963d2ef0b5af690fa2081fda3a16", func := "tithebarn/tithebarnlaw01.SumMore", spec := "sumMore", named := ["tithebarn/sum.half"], apart := false, laid := [("tithebarn/sum.half", laid_tithebarn_sum_half)] }
def SumMoreSaid : Prop := sumMoreRow.holds Tryd.pinned (OpenSpec.ofChange sumMoreSpec)

/-- ITS FALSE NEIGHBOUR: 'it returns false'. Refute it at one input. -/
def sumMoreWrong : ChangeSpec := { name := "sumMore", fn := fun _ => fun
  | [d1, d2] => { results := [.lit (.bool false)], args := [d1, d2] }
  | _ => none }
def SumMoreWrongFalsely : Prop := sumMoreRow.holds Tryd.pinned (OpenSpec.ofChange sumMoreWrong)

/-- 'tithebarnlaw01.SumTells': WHATEVER THE INPUT: true; the input reads as it did. -/
def sumTellsSpec : ChangeSpec := { name := "sumTells", fn := fun _ => fun
  | [d1, d2, d3] => { results := [.lit (.bool true)], args := [d1, d2, d3] }
  | _ => none }
def sumTellsRow : OpenClaim := { program := "ytnnkcohkgckclaadoor", sum := "83add419dc4dbfb36ca673df76b911e6e15b963d2ef0b5af690fa2081fda3a16", func := "tithebarn/tithebarnlaw01.SumTells", spec := "sumTells", named := ["tithebarn/sum.half"], apart := false, laid := [("tithebarn/sum.half", laid_tithebarn_sum_half)] }
def SumTellsSaid : Prop := sumTellsRow.holds Tryd.pinned (OpenSpec.ofChange sumTellsSpec)

/-- ITS FALSE NEIGHBOUR: 'it returns false'. Refute it at one input. -/
def sumTellsWrong : ChangeSpec := { name := "sumTells", fn := fun _ => fun
  | [d1, d2, d3] => { results := [.lit (.bool false)], args := [d1, d2, d3] }
  | _ => none }
def SumTellsWrongFalsely : Prop := sumTellsRow.holds Tryd.pinned (OpenSpec.ofChange sumTellsWrong)

/-- 'tithebarnlaw01.SumJoins': WHATEVER THE INPUT: true; the input reads as it did. -/
def sumJoinsSpec : ChangeSpec := { name := "sumJoins", fn := fun _ => fun
  | [d1, d2, d3] => { results := [.lit (.bool true)], args := [d1, d2, d3] }
  | _ => none }
def sumJoinsRow : OpenClaim := { program := "ytnnkcohkgckclaadoor", sum := "83add419dc4dbfb36ca673df76b911e6e15b963d2ef0b5af690fa2081fda3a16", func := "tithebarn/tithebarnlaw01.SumJoins", spec := "sumJoins", named := ["tithebarn/sum.half"], apart := false, laid := [("tithebarn/sum.half", laid_tithebarn_sum_half)] }
def SumJoinsSaid : Prop := sumJoinsRow.holds Tryd.pinned (OpenSpec.ofChange sumJoinsSpec)

/-- ITS FALSE NEIGHBOUR: 'it returns false'. Refute it at one input. -/
def sumJoinsWrong : ChangeSpec := { name := "sumJoins", fn := fun _ => fun
  | [d1, d2, d3] => { results := [.lit (.bool false)], args := [d1, d2, d3] }
  | _ => none }
def SumJoinsWrongFalsely : Prop := sumJoinsRow.holds Tryd.pinned (OpenSpec.ofChange sumJoinsWrong)

/-- 'tithebarnlaw01.SumEnds': WHATEVER THE INPUT: true; the input reads as it did. -/
def sumEndsSpec : ChangeSpec := { name := "sumEnds", fn := fun _ => fun
  | [d] => { results := [.lit (.bool true)], args := [d] }
  | _ => none }
def sumEndsRow : OpenClaim := { program := "ytnnkcohkgckclaadoor", sum := "83add419dc4dbfb36ca673df76b911e6e15b963d2ef0b5af690fa2081fda3a16", func := "tithebarn/tithebarnlaw01.SumEnds", spec := "sumEnds", named := ["tithebarn/sum.half"], apart := false, laid := [("tithebarn/sum.half", laid_tithebarn_sum_half)] }
def SumEndsSaid : Prop := sumEndsRow.holds Tryd.pinned (OpenSpec.ofChange sumEndsSpec)

/-- ITS FALSE NEIGHBOUR: 'it returns false'. Refute it at one input. -/
def sumEndsWrong : ChangeSpec := { name := "sumEnds", fn := fun _ => fun
  | [d] => { results := [.lit (.bool false)], args := [d] }
  | _ => none }
def SumEndsWrongFalsely : Prop := sumEndsRow.holds Tryd.pinned (OpenSpec.ofChange sumEndsWrong)

/-- 'tithebarnlaw01.SumMasks': WHATEVER THE INPUT: true; the input reads as it did. -/
def sumMasksSpec : ChangeSpec := { name := "sumMasks", fn := fun _ => fun
  | [d1, d2] => { results := [.lit (.bool true)], args := [d1, d2] }
  | _ => none }
def sumMasksRow : OpenClaim := { program := "ytnnkcohkgckclaadoor", sum := "83add419dc4dbfb36ca673df76b911e6e15b963d2ef0b5af690fa2081fda3a16", func := "tithebarn/tithebarnlaw01.SumMasks", spec := "sumMasks", named := ["tithebarn/sum.half"], apart := false, laid := [("tithebarn/sum.half", laid_tithebarn_sum_half)] }
def SumMasksSaid : Prop := sumMasksRow.holds Tryd.pinned (OpenSpec.ofChange sumMasksSpec)

/-- ITS FALSE NEIGHBOUR: 'it returns false'. Refute it at one input. -/
def sumMasksWrong : ChangeSpec := { name := "sumMasks", fn := fun _ => fun
  | [d1, d2] => { results := [.lit (.bool false)], args := [d1, d2] }
  | _ => none }
def SumMasksWrongFalsely : Prop := sumMasksRow.holds Tryd.pinned (OpenSpec.ofChange sumMasksWrong)

/-- 'tithebarnlaw01.SumWords': WHATEVER THE INPUT: true; the input reads as it did. -/
def sumWordsSpec : ChangeSpec := { name := "sumWords", fn := fun _ => fun
  | [d1, d2] => { results := [.lit (.bool true)], args := [d1, d2] }
  | _ => none }
def sumWordsRow : OpenClaim := { program := "ytnnkcohkgckclaadoor", sum := "83add419dc4dbfb36ca673df76b911e6e15b963d2ef0b5af690fa2081fda3a16", func := "tithebarn/tithebarnlaw01.SumWords", spec := "sumWords", named := ["tithebarn/sum.half"], apart := false, laid := [("tithebarn/sum.half", laid_tithebarn_sum_half)] }
def SumWordsSaid : Prop := sumWordsRow.holds Tryd.pinned (OpenSpec.ofChange sumWordsSpec)

/-- ITS FALSE NEIGHBOUR: 'it returns false'. Refute it at one input. -/
def sumWordsWrong : ChangeSpec := { name := "sumWords", fn := fun _ => fun
  | [d1, d2] => { results := [.lit (.bool false)], args := [d1, d2] }
  | _ => none }
def SumWordsWrongFalsely : Prop := sumWordsRow.holds Tryd.pinned (OpenSpec.ofChange sumWordsWrong)

/- THE SECOND FORM. 'bulk': how many values and letters a reading holds, each counted each time it is reached (what is shared counts as often as it is met; a slice's spare places count too). A statement '..UptoSaid' is the law's where the arguments, and the package variables that the reading takes, are together of bulk at most 1048576: NARROWER than '..Said'. Prove '..Said' where nothing that the law and all that it calls make is longer than what came in: it says more and counts as full. Else prove '..UptoSaid'. A law counts once. -/
mutual
def uptoBulk {H : Type} : DataW H → Nat
  | .lit (.string bytes) => bytes.length + 1
  | .lit _ => 1
  | .nil => 1
  | .ptr d => uptoBulk d + 1
  | .slice elems spare => uptoBulkAll elems + uptoBulkAll spare + 1
  | .agg parts => uptoBulkAll parts + 1
  | .iface _ d => uptoBulk d + 1
  | .map entries => uptoBulkEntries entries + 1
  | .held _ => 1
def uptoBulkAll {H : Type} : List (DataW H) → Nat
  | [] => 0
  | d :: r => uptoBulk d + uptoBulkAll r
def uptoBulkEntries {H : Type} : List (Lit × DataW H) → Nat
  | [] => 0
  | x :: r => uptoBulkEntry x + uptoBulkEntries r
def uptoBulkEntry {H : Type} : Lit × DataW H → Nat
  | (.string bytes, d) => bytes.length + uptoBulk d + 1
  | (_, d) => uptoBulk d + 1
 end
def uptoSmall : (H : Type) → List (DataW H) → Bool := fun _ ds => decide (uptoBulkAll ds ≤ 1048576)
def OpenSpec.upto (s : _root_.Go.ChangeSpec) : _root_.Go.OpenSpec := { _root_.Go.OpenSpec.ofChange s with cond := some uptoSmall }

/-- 'tithebarnlaw01.SumIs', WHERE WHAT IT READS IS OF BULK AT MOST 1048576: true; the input reads as it did. -/
def sumIsUptoRow : OpenClaim := { program := "ytnnkcohkgckclaadoor", sum := "83add419dc4dbfb36ca673df76b911e6e15b963d2ef0b5af690fa2081fda3a16", func := "tithebarn/tithebarnlaw01.SumIs", spec := "sumIs", named := ["tithebarn/sum.half"], apart := false, laid := [("tithebarn/sum.half", laid_tithebarn_sum_half)], narrowed := true }
def SumIsUptoSaid : Prop := sumIsUptoRow.holds Tryd.pinned (OpenSpec.upto sumIsSpec)

/-- 'tithebarnlaw01.SumMore', WHERE WHAT IT READS IS OF BULK AT MOST 1048576: true; the input reads as it did. -/
def sumMoreUptoRow : OpenClaim := { program := "ytnnkcohkgckclaadoor", sum := "83add419dc4dbfb36ca673df76b911e6e15b963d2ef0b5af690fa2081fda3a16", func := "tithebarn/tithebarnlaw01.SumMore", spec := "sumMore", named := ["tithebarn/sum.half"], apart := false, laid := [("tithebarn/sum.half", laid_tithebarn_sum_half)], narrowed := true }
def SumMoreUptoSaid : Prop := sumMoreUptoRow.holds Tryd.pinned (OpenSpec.upto sumMoreSpec)

/-- 'tithebarnlaw01.SumTells', WHERE WHAT IT READS IS OF BULK AT MOST 1048576: true; the input reads as it did. -/
def sumTellsUptoRow : OpenClaim := { program := "ytnnkcohkgckclaadoor", sum := "83add419dc4dbfb36ca673df76b911e6e15b963d2ef0b5af690fa2081fda3a16", func := "tithebarn/tithebarnlaw01.SumTells", spec := "sumTells", named := ["tithebarn/sum.half"], apart := false, laid := [("tithebarn/sum.half", laid_tithebarn_sum_half)], narrowed := true }
def SumTellsUptoSaid : Prop := sumTellsUptoRow.holds Tryd.pinned (OpenSpec.upto sumTellsSpec)

/-- 'tithebarnlaw01.SumJoins', WHERE WHAT IT READS IS OF BULK AT MOST 1048576: true; the input reads as it did. -/
def sumJoinsUptoRow : OpenClaim := { program := "ytnnkcohkgckclaadoor", sum := "83add419dc4dbfb36ca673df76b911e6e15b963d2ef0b5af690fa2081fda3a16", func := "tithebarn/tithebarnlaw01.SumJoins", spec := "sumJoins", named := ["tithebarn/sum.half"], apart := false, laid := [("tithebarn/sum.half", laid_tithebarn_sum_half)], narrowed := true }
def SumJoinsUptoSaid : Prop := sumJoinsUptoRow.holds Tryd.pinned (OpenSpec.upto sumJoinsSpec)

/-- 'tithebarnlaw01.SumEnds', WHERE WHAT IT READS IS OF BULK AT MOST 1048576: true; the input reads as it did. -/
def sumEndsUptoRow : OpenClaim := { program := "ytnnkcohkgckclaadoor", sum := "83add419dc4dbfb36ca673df76b911e6e15b963d2ef0b5af690fa2081fda3a16", func := "tithebarn/tithebarnlaw01.SumEnds", spec := "sumEnds", named := ["tithebarn/sum.half"], apart := false, laid := [("tithebarn/sum.half", laid_tithebarn_sum_half)], narrowed := true }
def SumEndsUptoSaid : Prop := sumEndsUptoRow.holds Tryd.pinned (OpenSpec.upto sumEndsSpec)

/-- 'tithebarnlaw01.SumMasks', WHERE WHAT IT READS IS OF BULK AT MOST 1048576: true; the input reads as it did. -/
def sumMasksUptoRow : OpenClaim := { program := "ytnnkcohkgckclaadoor", sum := "83add419dc4dbfb36ca673df76b911e6e15b963d2ef0b5af690fa2081fda3a16", func := "tithebarn/tithebarnlaw01.SumMasks", spec := "sumMasks", named := ["tithebarn/sum.half"], apart := false, laid := [("tithebarn/sum.half", laid_tithebarn_sum_half)], narrowed := true }
def SumMasksUptoSaid : Prop := sumMasksUptoRow.holds Tryd.pinned (OpenSpec.upto sumMasksSpec)

/-- 'tithebarnlaw01.SumWords', WHERE WHAT IT READS IS OF BULK AT MOST 1048576: true; the input reads as it did. -/
def sumWordsUptoRow : OpenClaim := { program := "ytnnkcohkgckclaadoor", sum := "83add419dc4dbfb36ca673df76b911e6e15b963d2ef0b5af690fa2081fda3a16", func := "tithebarn/tithebarnlaw01.SumWords", spec := "sumWords", named := ["tithebarn/sum.half"], apart := false, laid := [("tithebarn/sum.half", laid_tithebarn_sum_half)], narrowed := true }
def SumWordsUptoSaid : Prop := sumWordsUptoRow.holds Tryd.pinned (OpenSpec.upto sumWordsSpec)

end Rows
end Go.Proofs.YtnnkcohkgckclaaDoor
