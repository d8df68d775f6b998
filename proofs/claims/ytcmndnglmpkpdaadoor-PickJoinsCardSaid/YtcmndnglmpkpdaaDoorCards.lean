/-
  DERIVED. GIVEN WITH THE SEED: THE CARDS: each row of YtcmndnglmpkpdaaDoorRows.lean that lists a variable, with what it lists TIED to the program's text (the seventh form; the later family's looks); each row that meets fmt, with fmt's text TOLD by the authors' own Lean function (tested against real Go, not proved from fmt's source: count such statements apart). THE CARD IS WHAT COUNTS. Prove the row's statement (the work); the ties are given (YtcmndnglmpkpdaaDoorTie.lean); close each card by the builder's one call (the guide's Derived/Test/ToyasCard.lean, 'card_holds'). Laid BY PROGRAM, IN A SANDBOX (cutbox-door.mjs). By AI agents, Wed Nov 11 2026. No macro, syntax, notation, axiom, sorry.
-/
import Derived.Test.YtcmndnglmpkpdaaDoorRows
import GoSem.ClaimSeven
namespace Go.Proofs.YtcmndnglmpkpdaaDoor
namespace Rows

/-- THE TIED CARD OF 'tithebarnlaw17.PickFull'. -/
def pickFullCard : Claim7 := { stood := { row := pickFullRow, standIns := [], harness := (true, "50b0aea07e5c47866f4989dc4011f658320d682728191ba7b36f59091a76fed4"), looks := false }, kinds := [], alts := [], laidByText := true, laidKinds := [.data], laidTests := true, laidLooks := .later }
def PickFullCardSaid : Prop := Claim7.holds Tryd.pinned (.plain (OpenSpec.ofChange pickFullSpec)) pickFullCard

/-- THE TIED CARD OF 'tithebarnlaw17.PickPlans'. -/
def pickPlansCard : Claim7 := { stood := { row := pickPlansRow, standIns := [], harness := (true, "50b0aea07e5c47866f4989dc4011f658320d682728191ba7b36f59091a76fed4"), looks := false }, kinds := [], alts := [], laidByText := true, laidKinds := [.data], laidTests := true, laidLooks := .later }
def PickPlansCardSaid : Prop := Claim7.holds Tryd.pinned (.plain (OpenSpec.ofChange pickPlansSpec)) pickPlansCard

/-- THE TIED CARD OF 'tithebarnlaw17.PickFits'. -/
def pickFitsCard : Claim7 := { stood := { row := pickFitsRow, standIns := [], harness := (true, "50b0aea07e5c47866f4989dc4011f658320d682728191ba7b36f59091a76fed4"), looks := false }, kinds := [], alts := [], laidByText := true, laidKinds := [.data], laidTests := true, laidLooks := .later }
def PickFitsCardSaid : Prop := Claim7.holds Tryd.pinned (.plain (OpenSpec.ofChange pickFitsSpec)) pickFitsCard

/-- THE TIED CARD OF 'tithebarnlaw17.PickDown'. -/
def pickDownCard : Claim7 := { stood := { row := pickDownRow, standIns := [], harness := (true, "50b0aea07e5c47866f4989dc4011f658320d682728191ba7b36f59091a76fed4"), looks := false }, kinds := [], alts := [], laidByText := true, laidKinds := [.data], laidTests := true, laidLooks := .later }
def PickDownCardSaid : Prop := Claim7.holds Tryd.pinned (.plain (OpenSpec.ofChange pickDownSpec)) pickDownCard

/-- THE TIED CARD OF 'tithebarnlaw17.PickJoins'. -/
def pickJoinsCard : Claim7 := { stood := { row := pickJoinsRow, standIns := [], harness := (true, "50b0aea07e5c47866f4989dc4011f658320d682728191ba7b36f59091a76fed4"), looks := false }, kinds := [], alts := [], laidByText := true, laidKinds := [.data], laidTests := true, laidLooks := .later }
def PickJoinsCardSaid : Prop := Claim7.holds Tryd.pinned (.plain (OpenSpec.ofChange pickJoinsSpec)) pickJoinsCard

/-- THE SECOND FORM's CARD OF 'tithebarnlaw17.PickFull'. -/
def pickFullUptoCard : Claim7 := { stood := { row := pickFullUptoRow, standIns := [], harness := (true, "50b0aea07e5c47866f4989dc4011f658320d682728191ba7b36f59091a76fed4"), looks := false }, kinds := [], alts := [], laidByText := true, laidKinds := [.data], laidTests := true, laidLooks := .later }
def PickFullUptoCardSaid : Prop := Claim7.holds Tryd.pinned (.plain (OpenSpec.upto pickFullSpec)) pickFullUptoCard

/-- THE SECOND FORM's CARD OF 'tithebarnlaw17.PickPlans'. -/
def pickPlansUptoCard : Claim7 := { stood := { row := pickPlansUptoRow, standIns := [], harness := (true, "50b0aea07e5c47866f4989dc4011f658320d682728191ba7b36f59091a76fed4"), looks := false }, kinds := [], alts := [], laidByText := true, laidKinds := [.data], laidTests := true, laidLooks := .later }
def PickPlansUptoCardSaid : Prop := Claim7.holds Tryd.pinned (.plain (OpenSpec.upto pickPlansSpec)) pickPlansUptoCard

/-- THE SECOND FORM's CARD OF 'tithebarnlaw17.PickFits'. -/
def pickFitsUptoCard : Claim7 := { stood := { row := pickFitsUptoRow, standIns := [], harness := (true, "50b0aea07e5c47866f4989dc4011f658320d682728191ba7b36f59091a76fed4"), looks := false }, kinds := [], alts := [], laidByText := true, laidKinds := [.data], laidTests := true, laidLooks := .later }
def PickFitsUptoCardSaid : Prop := Claim7.holds Tryd.pinned (.plain (OpenSpec.upto pickFitsSpec)) pickFitsUptoCard

/-- THE SECOND FORM's CARD OF 'tithebarnlaw17.PickDown'. -/
def pickDownUptoCard : Claim7 := { stood := { row := pickDownUptoRow, standIns := [], harness := (true, "50b0aea07e5c47866f4989dc4011f658320d682728191ba7b36f59091a76fed4"), looks := false }, kinds := [], alts := [], laidByText := true, laidKinds := [.data], laidTests := true, laidLooks := .later }
def PickDownUptoCardSaid : Prop := Claim7.holds Tryd.pinned (.plain (OpenSpec.upto pickDownSpec)) pickDownUptoCard

/-- THE SECOND FORM's CARD OF 'tithebarnlaw17.PickJoins'. -/
def pickJoinsUptoCard : Claim7 := { stood := { row := pickJoinsUptoRow, standIns := [], harness := (true, "50b0aea07e5c47866f4989dc4011f658320d682728191ba7b36f59091a76fed4"), looks := false }, kinds := [], alts := [], laidByText := true, laidKinds := [.data], laidTests := true, laidLooks := .later }
def PickJoinsUptoCardSaid : Prop := Claim7.holds Tryd.pinned (.plain (OpenSpec.upto pickJoinsSpec)) pickJoinsUptoCard
end Rows
end Go.Proofs.YtcmndnglmpkpdaaDoor
