/-
  NARROWER THAN 'FOR EVERY INPUT', by the rows' own cells (each row's printed sentence says how): BloomKeeps: laid · BloomPlays: laid · BloomOrder: laid · BloomPlaces: laid · BloomParses: laid · BloomBack: laid.
  DERIVED. THE GIVEN ROWS OF THIS SEAT. 6 by the template 'for every input the law returns true; each argument reads behind the call as it read before'; 0 by the template 'total and deterministic' (their statements: YtkdipflmmlnbpaaDoorTotals.lean).
  GIVEN WITH THE SEED: the statements are not yours to turn. If you find one false, say at which input.
  Laid BY PROGRAM, IN A SANDBOX (cutbox-rows.mjs): the forced cells as the released guide's own fill.sh prints them over the translation 29e6657497b60fb1… (all of the seat's roots in one cut). By AI agents, Wed Nov 11 2026. No macro, syntax, notation, axiom, sorry.
-/
import Derived.Test.YtkdipflmmlnbpaaDoorChecked
import GoSem.Claim
import GoSem.ClaimJoined
import GoSem.ClaimMapViews
import Derived.JoinedTies
import Derived.KernelRfl
namespace Go.Proofs.YtkdipflmmlnbpaaDoor
/- THE CELL 'sum', in the pinned program and in every row, IS THE sha256 OF THE DUMP (.gsa) THAT YtkdipflmmlnbpaaDoorProg.lean LOADS. Nothing in Lean hashes anything: it is a label: what it is worth is what the hold of that sum in a sandbox is worth. -/
noncomputable def Tryd.pinned : Pinned := { name := "ytkdipflmmlnbpaadoor", sum := "29e6657497b60fb15fb41ac8a1302c7f26e3a1de08b2ecd0a5d5eff5c12c88e0", checked := Tryd.checked }
namespace Rows
def none {H : Type} : Left H := { results := [], args := [] }

/- WHAT THE LISTED PACKAGE-LEVEL VARIABLES READ AS WHEN THE CALL BEGINS. Each datum BY PROGRAM (the guide's laid-datum.mjs) off the statement by which the dump's own 'gosem.cut.vars' lays the variable. In a bare row this is a premise. The card (YtkdipflmmlnbpaaDoorCards.lean) ties it to the program's text. -/
def laid_tithebarn_sum_half {H : Type} : DataW H := .agg [.lit (.int .u32 0), .lit (.int .u32 274646895), .lit (.int .u32 549293790), .lit (.int .u32 820201905), .lit (.int .u32 1098587580), .lit (.int .u32 1361435347), .lit (.int .u32 1640403810), .lit (.int .u32 1905808397), .lit (.int .u32 2197175160), .lit (.int .u32 2460548119), .lit (.int .u32 2722870694), .lit (.int .u32 2987750089), .lit (.int .u32 3280807620), .lit (.int .u32 3553878443), .lit (.int .u32 3811616794), .lit (.int .u32 4084100981)]

/-- 'tithebarnlaw04.BloomKeeps': WHATEVER THE INPUT: true; the input reads as it did. -/
def bloomKeepsSpec : ChangeSpec := { name := "bloomKeeps", fn := fun _ => fun
  | [d1, d2] => { results := [.lit (.bool true)], args := [d1, d2] }
  | _ => none }
def bloomKeepsRow : OpenClaim := { program := "ytkdipflmmlnbpaadoor", sum := "29e6657497b60fb15fb41ac8a1302c7f26e3a1de08b2ecd0a5d5eff5c12c88e0", func := "tithebarn/tithebarnlaw04.BloomKeeps", spec := "bloomKeeps", unfollowed := true, recurses := true, named := ["tithebarn/sum.half"], apart := false, laid := [("tithebarn/sum.half", laid_tithebarn_sum_half)] }
def BloomKeepsSaid : Prop := bloomKeepsRow.holds Tryd.pinned (OpenSpec.ofChange bloomKeepsSpec)

/-- ITS FALSE NEIGHBOUR: 'it returns false'. Refute it at one input. -/
def bloomKeepsWrong : ChangeSpec := { name := "bloomKeeps", fn := fun _ => fun
  | [d1, d2] => { results := [.lit (.bool false)], args := [d1, d2] }
  | _ => none }
def BloomKeepsWrongFalsely : Prop := bloomKeepsRow.holds Tryd.pinned (OpenSpec.ofChange bloomKeepsWrong)

/-- 'tithebarnlaw04.BloomPlays': WHATEVER THE INPUT: true; the input reads as it did. -/
def bloomPlaysSpec : ChangeSpec := { name := "bloomPlays", fn := fun _ => fun
  | [d] => { results := [.lit (.bool true)], args := [d] }
  | _ => none }
def bloomPlaysRow : OpenClaim := { program := "ytkdipflmmlnbpaadoor", sum := "29e6657497b60fb15fb41ac8a1302c7f26e3a1de08b2ecd0a5d5eff5c12c88e0", func := "tithebarn/tithebarnlaw04.BloomPlays", spec := "bloomPlays", unfollowed := true, recurses := true, named := ["tithebarn/sum.half"], apart := false, laid := [("tithebarn/sum.half", laid_tithebarn_sum_half)] }
def BloomPlaysSaid : Prop := bloomPlaysRow.holds Tryd.pinned (OpenSpec.ofChange bloomPlaysSpec)

/-- ITS FALSE NEIGHBOUR: 'it returns false'. Refute it at one input. -/
def bloomPlaysWrong : ChangeSpec := { name := "bloomPlays", fn := fun _ => fun
  | [d] => { results := [.lit (.bool false)], args := [d] }
  | _ => none }
def BloomPlaysWrongFalsely : Prop := bloomPlaysRow.holds Tryd.pinned (OpenSpec.ofChange bloomPlaysWrong)

/-- 'tithebarnlaw04.BloomOrder': WHATEVER THE INPUT: true; the input reads as it did. -/
def bloomOrderSpec : ChangeSpec := { name := "bloomOrder", fn := fun _ => fun
  | [d1, d2] => { results := [.lit (.bool true)], args := [d1, d2] }
  | _ => none }
def bloomOrderRow : OpenClaim := { program := "ytkdipflmmlnbpaadoor", sum := "29e6657497b60fb15fb41ac8a1302c7f26e3a1de08b2ecd0a5d5eff5c12c88e0", func := "tithebarn/tithebarnlaw04.BloomOrder", spec := "bloomOrder", unfollowed := true, recurses := true, named := ["tithebarn/sum.half"], apart := false, laid := [("tithebarn/sum.half", laid_tithebarn_sum_half)] }
def BloomOrderSaid : Prop := bloomOrderRow.holds Tryd.pinned (OpenSpec.ofChange bloomOrderSpec)

/-- ITS FALSE NEIGHBOUR: 'it returns false'. Refute it at one input. -/
def bloomOrderWrong : ChangeSpec := { name := "bloomOrder", fn := fun _ => fun
  | [d1, d2] => { results := [.lit (.bool false)], args := [d1, d2] }
  | _ => none }
def BloomOrderWrongFalsely : Prop := bloomOrderRow.holds Tryd.pinned (OpenSpec.ofChange bloomOrderWrong)

/-- 'tithebarnlaw04.BloomPlaces': WHATEVER THE INPUT: true; the input reads as it did. -/
def bloomPlacesSpec : ChangeSpec := { name := "bloomPlaces", fn := fun _ => fun
  | [d1, d2, d3] => { results := [.lit (.bool true)], args := [d1, d2, d3] }
  | _ => none }
def bloomPlacesRow : OpenClaim := { program := "ytkdipflmmlnbpaadoor", sum := "29e6657497b60fb15fb41ac8a1302c7f26e3a1de08b2ecd0a5d5eff5c12c88e0", func := "tithebarn/tithebarnlaw04.BloomPlaces", spec := "bloomPlaces", unfollowed := true, recurses := true, named := ["tithebarn/sum.half"], apart := false, laid := [("tithebarn/sum.half", laid_tithebarn_sum_half)] }
def BloomPlacesSaid : Prop := bloomPlacesRow.holds Tryd.pinned (OpenSpec.ofChange bloomPlacesSpec)

/-- ITS FALSE NEIGHBOUR: 'it returns false'. Refute it at one input. -/
def bloomPlacesWrong : ChangeSpec := { name := "bloomPlaces", fn := fun _ => fun
  | [d1, d2, d3] => { results := [.lit (.bool false)], args := [d1, d2, d3] }
  | _ => none }
def BloomPlacesWrongFalsely : Prop := bloomPlacesRow.holds Tryd.pinned (OpenSpec.ofChange bloomPlacesWrong)

/-- 'tithebarnlaw04.BloomParses': WHATEVER THE INPUT: true; the input reads as it did. -/
def bloomParsesSpec : ChangeSpec := { name := "bloomParses", fn := fun _ => fun
  | [d1, d2] => { results := [.lit (.bool true)], args := [d1, d2] }
  | _ => none }
def bloomParsesRow : OpenClaim := { program := "ytkdipflmmlnbpaadoor", sum := "29e6657497b60fb15fb41ac8a1302c7f26e3a1de08b2ecd0a5d5eff5c12c88e0", func := "tithebarn/tithebarnlaw04.BloomParses", spec := "bloomParses", unfollowed := true, recurses := true, named := ["tithebarn/sum.half"], apart := false, laid := [("tithebarn/sum.half", laid_tithebarn_sum_half)] }
def BloomParsesSaid : Prop := bloomParsesRow.holds Tryd.pinned (OpenSpec.ofChange bloomParsesSpec)

/-- ITS FALSE NEIGHBOUR: 'it returns false'. Refute it at one input. -/
def bloomParsesWrong : ChangeSpec := { name := "bloomParses", fn := fun _ => fun
  | [d1, d2] => { results := [.lit (.bool false)], args := [d1, d2] }
  | _ => none }
def BloomParsesWrongFalsely : Prop := bloomParsesRow.holds Tryd.pinned (OpenSpec.ofChange bloomParsesWrong)

/-- 'tithebarnlaw04.BloomBack': WHATEVER THE INPUT: true; the input reads as it did. -/
def bloomBackSpec : ChangeSpec := { name := "bloomBack", fn := fun _ => fun
  | [d1, d2, d3] => { results := [.lit (.bool true)], args := [d1, d2, d3] }
  | _ => none }
def bloomBackRow : OpenClaim := { program := "ytkdipflmmlnbpaadoor", sum := "29e6657497b60fb15fb41ac8a1302c7f26e3a1de08b2ecd0a5d5eff5c12c88e0", func := "tithebarn/tithebarnlaw04.BloomBack", spec := "bloomBack", unfollowed := true, recurses := true, named := ["tithebarn/sum.half"], apart := false, laid := [("tithebarn/sum.half", laid_tithebarn_sum_half)] }
def BloomBackSaid : Prop := bloomBackRow.holds Tryd.pinned (OpenSpec.ofChange bloomBackSpec)

/-- ITS FALSE NEIGHBOUR: 'it returns false'. Refute it at one input. -/
def bloomBackWrong : ChangeSpec := { name := "bloomBack", fn := fun _ => fun
  | [d1, d2, d3] => { results := [.lit (.bool false)], args := [d1, d2, d3] }
  | _ => none }
def BloomBackWrongFalsely : Prop := bloomBackRow.holds Tryd.pinned (OpenSpec.ofChange bloomBackWrong)

/- THE SECOND FORM. 'bulk': how many values and letters a reading holds, each counted each time it is reached (what is shared counts as often as it is met; a slice's spare places count too). A statement '..UptoSaid' is the law's where the arguments, and the package variables that the reading takes, are together of bulk at most 1048576: NARROWER than '..Said'. Prove '..Said' where nothing that the law and all that it calls make is longer than what came in: it says more and counts as full. Else prove '..UptoSaid'. A law counts once. -/
mutual
def uptoBulk {H : Type} : DataW H → Nat
  | .lit (.string bytes) => bytes.length + 1
  | .lit _ => 1
  | .nil => 1
  | .ptr d => uptoBulk d + 1
  | .slice elems spare => uptoBulkAll elems + uptoBulkAll spare + 1
  | .agg parts => uptoBulkAll parts + 1
  | .iface _ d => uptoBulk d + 1
  | .map entries => uptoBulkEntries entries + 1
  | .held _ => 1
def uptoBulkAll {H : Type} : List (DataW H) → Nat
  | [] => 0
  | d :: r => uptoBulk d + uptoBulkAll r
def uptoBulkEntries {H : Type} : List (Lit × DataW H) → Nat
  | [] => 0
  | x :: r => uptoBulkEntry x + uptoBulkEntries r
def uptoBulkEntry {H : Type} : Lit × DataW H → Nat
  | (.string bytes, d) => bytes.length + uptoBulk d + 1
  | (_, d) => uptoBulk d + 1
 end
def uptoSmall : (H : Type) → List (DataW H) → Bool := fun _ ds => decide (uptoBulkAll ds ≤ 1048576)
def OpenSpec.upto (s : _root_.Go.ChangeSpec) : _root_.Go.OpenSpec := { _root_.Go.OpenSpec.ofChange s with cond := some uptoSmall }

/-- 'tithebarnlaw04.BloomKeeps', WHERE WHAT IT READS IS OF BULK AT MOST 1048576: true; the input reads as it did. -/
def bloomKeepsUptoRow : OpenClaim := { program := "ytkdipflmmlnbpaadoor", sum := "29e6657497b60fb15fb41ac8a1302c7f26e3a1de08b2ecd0a5d5eff5c12c88e0", func := "tithebarn/tithebarnlaw04.BloomKeeps", spec := "bloomKeeps", unfollowed := true, recurses := true, named := ["tithebarn/sum.half"], apart := false, laid := [("tithebarn/sum.half", laid_tithebarn_sum_half)], narrowed := true }
def BloomKeepsUptoSaid : Prop := bloomKeepsUptoRow.holds Tryd.pinned (OpenSpec.upto bloomKeepsSpec)

/-- 'tithebarnlaw04.BloomPlays', WHERE WHAT IT READS IS OF BULK AT MOST 1048576: true; the input reads as it did. -/
def bloomPlaysUptoRow : OpenClaim := { program := "ytkdipflmmlnbpaadoor", sum := "29e6657497b60fb15fb41ac8a1302c7f26e3a1de08b2ecd0a5d5eff5c12c88e0", func := "tithebarn/tithebarnlaw04.BloomPlays", spec := "bloomPlays", unfollowed := true, recurses := true, named := ["tithebarn/sum.half"], apart := false, laid := [("tithebarn/sum.half", laid_tithebarn_sum_half)], narrowed := true }
def BloomPlaysUptoSaid : Prop := bloomPlaysUptoRow.holds Tryd.pinned (OpenSpec.upto bloomPlaysSpec)

/-- 'tithebarnlaw04.BloomOrder', WHERE WHAT IT READS IS OF BULK AT MOST 1048576: true; the input reads as it did. -/
def bloomOrderUptoRow : OpenClaim := { program := "ytkdipflmmlnbpaadoor", sum := "29e6657497b60fb15fb41ac8a1302c7f26e3a1de08b2ecd0a5d5eff5c12c88e0", func := "tithebarn/tithebarnlaw04.BloomOrder", spec := "bloomOrder", unfollowed := true, recurses := true, named := ["tithebarn/sum.half"], apart := false, laid := [("tithebarn/sum.half", laid_tithebarn_sum_half)], narrowed := true }
def BloomOrderUptoSaid : Prop := bloomOrderUptoRow.holds Tryd.pinned (OpenSpec.upto bloomOrderSpec)

/-- 'tithebarnlaw04.BloomPlaces', WHERE WHAT IT READS IS OF BULK AT MOST 1048576: true; the input reads as it did. -/
def bloomPlacesUptoRow : OpenClaim := { program := "ytkdipflmmlnbpaadoor", sum := "29e6657497b60fb15fb41ac8a1302c7f26e3a1de08b2ecd0a5d5eff5c12c88e0", func := "tithebarn/tithebarnlaw04.BloomPlaces", spec := "bloomPlaces", unfollowed := true, recurses := true, named := ["tithebarn/sum.half"], apart := false, laid := [("tithebarn/sum.half", laid_tithebarn_sum_half)], narrowed := true }
def BloomPlacesUptoSaid : Prop := bloomPlacesUptoRow.holds Tryd.pinned (OpenSpec.upto bloomPlacesSpec)

/-- 'tithebarnlaw04.BloomParses', WHERE WHAT IT READS IS OF BULK AT MOST 1048576: true; the input reads as it did. -/
def bloomParsesUptoRow : OpenClaim := { program := "ytkdipflmmlnbpaadoor", sum := "29e6657497b60fb15fb41ac8a1302c7f26e3a1de08b2ecd0a5d5eff5c12c88e0", func := "tithebarn/tithebarnlaw04.BloomParses", spec := "bloomParses", unfollowed := true, recurses := true, named := ["tithebarn/sum.half"], apart := false, laid := [("tithebarn/sum.half", laid_tithebarn_sum_half)], narrowed := true }
def BloomParsesUptoSaid : Prop := bloomParsesUptoRow.holds Tryd.pinned (OpenSpec.upto bloomParsesSpec)

/-- 'tithebarnlaw04.BloomBack', WHERE WHAT IT READS IS OF BULK AT MOST 1048576: true; the input reads as it did. -/
def bloomBackUptoRow : OpenClaim := { program := "ytkdipflmmlnbpaadoor", sum := "29e6657497b60fb15fb41ac8a1302c7f26e3a1de08b2ecd0a5d5eff5c12c88e0", func := "tithebarn/tithebarnlaw04.BloomBack", spec := "bloomBack", unfollowed := true, recurses := true, named := ["tithebarn/sum.half"], apart := false, laid := [("tithebarn/sum.half", laid_tithebarn_sum_half)], narrowed := true }
def BloomBackUptoSaid : Prop := bloomBackUptoRow.holds Tryd.pinned (OpenSpec.upto bloomBackSpec)

end Rows
end Go.Proofs.YtkdipflmmlnbpaaDoor
