/-
  DERIVED. GIVEN WITH THE SEED: THE CARDS: each row of YtkdipflmmlnbpaaDoorRows.lean that lists a variable, with what it lists TIED to the program's text (the seventh form; the later family's looks); each row that meets fmt, with fmt's text TOLD by the authors' own Lean function (tested against real Go, not proved from fmt's source: count such statements apart). THE CARD IS WHAT COUNTS. Prove the row's statement (the work); the ties are given (YtkdipflmmlnbpaaDoorTie.lean); close each card by the builder's one call (the guide's Derived/Test/ToyasCard.lean, 'card_holds'). Laid BY PROGRAM, IN A SANDBOX (cutbox-door.mjs). By AI agents, Wed Nov 11 2026. No macro, syntax, notation, axiom, sorry.
-/
import Derived.Test.YtkdipflmmlnbpaaDoorRows
import GoSem.ClaimSeven
namespace Go.Proofs.YtkdipflmmlnbpaaDoor
namespace Rows

/-- THE TIED CARD OF 'tithebarnlaw04.BloomKeeps'. -/
def bloomKeepsCard : Claim7 := { stood := { row := bloomKeepsRow, standIns := [], harness := (true, "7d199568998bbdca095aa4a27bb27661a759100d16fd3e8c00ec23455e254886"), looks := false }, kinds := [], alts := [], laidByText := true, laidKinds := [.data], laidTests := true, laidLooks := .later }
def BloomKeepsCardSaid : Prop := Claim7.holds Tryd.pinned (.plain (OpenSpec.ofChange bloomKeepsSpec)) bloomKeepsCard

/-- THE TIED CARD OF 'tithebarnlaw04.BloomPlays'. -/
def bloomPlaysCard : Claim7 := { stood := { row := bloomPlaysRow, standIns := [], harness := (true, "7d199568998bbdca095aa4a27bb27661a759100d16fd3e8c00ec23455e254886"), looks := false }, kinds := [], alts := [], laidByText := true, laidKinds := [.data], laidTests := true, laidLooks := .later }
def BloomPlaysCardSaid : Prop := Claim7.holds Tryd.pinned (.plain (OpenSpec.ofChange bloomPlaysSpec)) bloomPlaysCard

/-- THE TIED CARD OF 'tithebarnlaw04.BloomOrder'. -/
def bloomOrderCard : Claim7 := { stood := { row := bloomOrderRow, standIns := [], harness := (true, "7d199568998bbdca095aa4a27bb27661a759100d16fd3e8c00ec23455e254886"), looks := false }, kinds := [], alts := [], laidByText := true, laidKinds := [.data], laidTests := true, laidLooks := .later }
def BloomOrderCardSaid : Prop := Claim7.holds Tryd.pinned (.plain (OpenSpec.ofChange bloomOrderSpec)) bloomOrderCard

/-- THE TIED CARD OF 'tithebarnlaw04.BloomPlaces'. -/
def bloomPlacesCard : Claim7 := { stood := { row := bloomPlacesRow, standIns := [], harness := (true, "7d199568998bbdca095aa4a27bb27661a759100d16fd3e8c00ec23455e254886"), looks := false }, kinds := [], alts := [], laidByText := true, laidKinds := [.data], laidTests := true, laidLooks := .later }
def BloomPlacesCardSaid : Prop := Claim7.holds Tryd.pinned (.plain (OpenSpec.ofChange bloomPlacesSpec)) bloomPlacesCard

/-- THE TIED CARD OF 'tithebarnlaw04.BloomParses'. -/
def bloomParsesCard : Claim7 := { stood := { row := bloomParsesRow, standIns := [], harness := (true, "7d199568998bbdca095aa4a27bb27661a759100d16fd3e8c00ec23455e254886"), looks := false }, kinds := [], alts := [], laidByText := true, laidKinds := [.data], laidTests := true, laidLooks := .later }
def BloomParsesCardSaid : Prop := Claim7.holds Tryd.pinned (.plain (OpenSpec.ofChange bloomParsesSpec)) bloomParsesCard

/-- THE TIED CARD OF 'tithebarnlaw04.BloomBack'. -/
def bloomBackCard : Claim7 := { stood := { row := bloomBackRow, standIns := [], harness := (true, "7d199568998bbdca095aa4a27bb27661a759100d16fd3e8c00ec23455e254886"), looks := false }, kinds := [], alts := [], laidByText := true, laidKinds := [.data], laidTests := true, laidLooks := .later }
def BloomBackCardSaid : Prop := Claim7.holds Tryd.pinned (.plain (OpenSpec.ofChange bloomBackSpec)) bloomBackCard

/-- THE SECOND FORM's CARD OF 'tithebarnlaw04.BloomKeeps'. -/
def bloomKeepsUptoCard : Claim7 := { stood := { row := bloomKeepsUptoRow, standIns := [], harness := (true, "7d199568998bbdca095aa4a27bb27661a759100d16fd3e8c00ec23455e254886"), looks := false }, kinds := [], alts := [], laidByText := true, laidKinds := [.data], laidTests := true, laidLooks := .later }
def BloomKeepsUptoCardSaid : Prop := Claim7.holds Tryd.pinned (.plain (OpenSpec.upto bloomKeepsSpec)) bloomKeepsUptoCard

/-- THE SECOND FORM's CARD OF 'tithebarnlaw04.BloomPlays'. -/
def bloomPlaysUptoCard : Claim7 := { stood := { row := bloomPlaysUptoRow, standIns := [], harness := (true, "7d199568998bbdca095aa4a27bb27661a759100d16fd3e8c00ec23455e254886"), looks := false }, kinds := [], alts := [], laidByText := true, laidKinds := [.data], laidTests := true, laidLooks := .later }
def BloomPlaysUptoCardSaid : Prop := Claim7.holds Tryd.pinned (.plain (OpenSpec.upto bloomPlaysSpec)) bloomPlaysUptoCard

/-- THE SECOND FORM's CARD OF 'tithebarnlaw04.BloomOrder'. -/
def bloomOrderUptoCard : Claim7 := { stood := { row := bloomOrderUptoRow, standIns := [], harness := (true, "7d199568998bbdca095aa4a27bb27661a759100d16fd3e8c00ec23455e254886"), looks := false }, kinds := [], alts := [], laidByText := true, laidKinds := [.data], laidTests := true, laidLooks := .later }
def BloomOrderUptoCardSaid : Prop := Claim7.holds Tryd.pinned (.plain (OpenSpec.upto bloomOrderSpec)) bloomOrderUptoCard

/-- THE SECOND FORM's CARD OF 'tithebarnlaw04.BloomPlaces'. -/
def bloomPlacesUptoCard : Claim7 := { stood := { row := bloomPlacesUptoRow, standIns := [], harness := (true, "7d199568998bbdca095aa4a27bb27661a759100d16fd3e8c00ec23455e254886"), looks := false }, kinds := [], alts := [], laidByText := true, laidKinds := [.data], laidTests := true, laidLooks := .later }
def BloomPlacesUptoCardSaid : Prop := Claim7.holds Tryd.pinned (.plain (OpenSpec.upto bloomPlacesSpec)) bloomPlacesUptoCard

/-- THE SECOND FORM's CARD OF 'tithebarnlaw04.BloomParses'. -/
def bloomParsesUptoCard : Claim7 := { stood := { row := bloomParsesUptoRow, standIns := [], harness := (true, "7d199568998bbdca095aa4a27bb27661a759100d16fd3e8c00ec23455e254886"), looks := false }, kinds := [], alts := [], laidByText := true, laidKinds := [.data], laidTests := true, laidLooks := .later }
def BloomParsesUptoCardSaid : Prop := Claim7.holds Tryd.pinned (.plain (OpenSpec.upto bloomParsesSpec)) bloomParsesUptoCard

/-- THE SECOND FORM's CARD OF 'tithebarnlaw04.BloomBack'. -/
def bloomBackUptoCard : Claim7 := { stood := { row := bloomBackUptoRow, standIns := [], harness := (true, "7d199568998bbdca095aa4a27bb27661a759100d16fd3e8c00ec23455e254886"), looks := false }, kinds := [], alts := [], laidByText := true, laidKinds := [.data], laidTests := true, laidLooks := .later }
def BloomBackUptoCardSaid : Prop := Claim7.holds Tryd.pinned (.plain (OpenSpec.upto bloomBackSpec)) bloomBackUptoCard
end Rows
end Go.Proofs.YtkdipflmmlnbpaaDoor
