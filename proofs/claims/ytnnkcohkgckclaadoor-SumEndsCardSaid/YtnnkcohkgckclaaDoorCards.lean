/-
  DERIVED. GIVEN WITH THE SEED: THE CARDS: each row of YtnnkcohkgckclaaDoorRows.lean that lists a variable, with what it lists TIED to the program's text (the seventh form; the later family's looks); each row that meets fmt, with fmt's text TOLD by the authors' own Lean function (tested against real Go, not proved from fmt's source: count such statements apart). THE CARD IS WHAT COUNTS. Prove the row's statement (the work); the ties are given (YtnnkcohkgckclaaDoorTie.lean); close each card by the builder's one call (the guide's Derived/Test/ToyasCard.lean, 'card_holds'). Laid BY PROGRAM, IN A SANDBOX (cutbox-door.mjs). By AI agents, Wed Nov 11 2026. No macro, syntax, notation, axiom, sorry.
-/
import Derived.Test.YtnnkcohkgckclaaDoorRows
import GoSem.ClaimSeven
namespace Go.Proofs.YtnnkcohkgckclaaDoor
namespace Rows

/-- THE TIED CARD OF 'tithebarnlaw01.SumIs'. -/
def sumIsCard : Claim7 := { stood := { row := sumIsRow, standIns := [], harness := (true, "792b37fd9b8cd59c4613e44ef25c822d08069d25377940ca5000afcc3bdabb0f"), looks := false }, kinds := [], alts := [], laidByText := true, laidKinds := [.data], laidTests := true, laidLooks := .later }
def SumIsCardSaid : Prop := Claim7.holds Tryd.pinned (.plain (OpenSpec.ofChange sumIsSpec)) sumIsCard

/-- THE TIED CARD OF 'tithebarnlaw01.SumMore'. -/
def sumMoreCard : Claim7 := { stood := { row := sumMoreRow, standIns := [], harness := (true, "792b37fd9b8cd59c4613e44ef25c822d08069d25377940ca5000afcc3bdabb0f"), looks := false }, kinds := [], alts := [], laidByText := true, laidKinds := [.data], laidTests := true, laidLooks := .later }
def SumMoreCardSaid : Prop := Claim7.holds Tryd.pinned (.plain (OpenSpec.ofChange sumMoreSpec)) sumMoreCard

/-- THE TIED CARD OF 'tithebarnlaw01.SumTells'. -/
def sumTellsCard : Claim7 := { stood := { row := sumTellsRow, standIns := [], harness := (true, "792b37fd9b8cd59c4613e44ef25c822d08069d25377940ca5000afcc3bdabb0f"), looks := false }, kinds := [], alts := [], laidByText := true, laidKinds := [.data], laidTests := true, laidLooks := .later }
def SumTellsCardSaid : Prop := Claim7.holds Tryd.pinned (.plain (OpenSpec.ofChange sumTellsSpec)) sumTellsCard

/-- THE TIED CARD OF 'tithebarnlaw01.SumJoins'. -/
def sumJoinsCard : Claim7 := { stood := { row := sumJoinsRow, standIns := [], harness := (true, "792b37fd9b8cd59c4613e44ef25c822d08069d25377940ca5000afcc3bdabb0f"), looks := false }, kinds := [], alts := [], laidByText := true, laidKinds := [.data], laidTests := true, laidLooks := .later }
def SumJoinsCardSaid : Prop := Claim7.holds Tryd.pinned (.plain (OpenSpec.ofChange sumJoinsSpec)) sumJoinsCard

/-- THE TIED CARD OF 'tithebarnlaw01.SumEnds'. -/
def sumEndsCard : Claim7 := { stood := { row := sumEndsRow, standIns := [], harness := (true, "792b37fd9b8cd59c4613e44ef25c822d08069d25377940ca5000afcc3bdabb0f"), looks := false }, kinds := [], alts := [], laidByText := true, laidKinds := [.data], laidTests := true, laidLooks := .later }
def SumEndsCardSaid : Prop := Claim7.holds Tryd.pinned (.plain (OpenSpec.ofChange sumEndsSpec)) sumEndsCard

/-- THE TIED CARD OF 'tithebarnlaw01.SumMasks'. -/
def sumMasksCard : Claim7 := { stood := { row := sumMasksRow, standIns := [], harness := (true, "792b37fd9b8cd59c4613e44ef25c822d08069d25377940ca5000afcc3bdabb0f"), looks := false }, kinds := [], alts := [], laidByText := true, laidKinds := [.data], laidTests := true, laidLooks := .later }
def SumMasksCardSaid : Prop := Claim7.holds Tryd.pinned (.plain (OpenSpec.ofChange sumMasksSpec)) sumMasksCard

/-- THE TIED CARD OF 'tithebarnlaw01.SumWords'. -/
def sumWordsCard : Claim7 := { stood := { row := sumWordsRow, standIns := [], harness := (true, "792b37fd9b8cd59c4613e44ef25c822d08069d25377940ca5000afcc3bdabb0f"), looks := false }, kinds := [], alts := [], laidByText := true, laidKinds := [.data], laidTests := true, laidLooks := .later }
def SumWordsCardSaid : Prop := Claim7.holds Tryd.pinned (.plain (OpenSpec.ofChange sumWordsSpec)) sumWordsCard

/-- THE SECOND FORM's CARD OF 'tithebarnlaw01.SumIs'. -/
def sumIsUptoCard : Claim7 := { stood := { row := sumIsUptoRow, standIns := [], harness := (true, "792b37fd9b8cd59c4613e44ef25c822d08069d25377940ca5000afcc3bdabb0f"), looks := false }, kinds := [], alts := [], laidByText := true, laidKinds := [.data], laidTests := true, laidLooks := .later }
def SumIsUptoCardSaid : Prop := Claim7.holds Tryd.pinned (.plain (OpenSpec.upto sumIsSpec)) sumIsUptoCard

/-- THE SECOND FORM's CARD OF 'tithebarnlaw01.SumMore'. -/
def sumMoreUptoCard : Claim7 := { stood := { row := sumMoreUptoRow, standIns := [], harness := (true, "792b37fd9b8cd59c4613e44ef25c822d08069d25377940ca5000afcc3bdabb0f"), looks := false }, kinds := [], alts := [], laidByText := true, laidKinds := [.data], laidTests := true, laidLooks := .later }
def SumMoreUptoCardSaid : Prop := Claim7.holds Tryd.pinned (.plain (OpenSpec.upto sumMoreSpec)) sumMoreUptoCard

/-- THE SECOND FORM's CARD OF 'tithebarnlaw01.SumTells'. -/
def sumTellsUptoCard : Claim7 := { stood := { row := sumTellsUptoRow, standIns := [], harness := (true, "792b37fd9b8cd59c4613e44ef25c822d08069d25377940ca5000afcc3bdabb0f"), looks := false }, kinds := [], alts := [], laidByText := true, laidKinds := [.data], laidTests := true, laidLooks := .later }
def SumTellsUptoCardSaid : Prop := Claim7.holds Tryd.pinned (.plain (OpenSpec.upto sumTellsSpec)) sumTellsUptoCard

/-- THE SECOND FORM's CARD OF 'tithebarnlaw01.SumJoins'. -/
def sumJoinsUptoCard : Claim7 := { stood := { row := sumJoinsUptoRow, standIns := [], harness := (true, "792b37fd9b8cd59c4613e44ef25c822d08069d25377940ca5000afcc3bdabb0f"), looks := false }, kinds := [], alts := [], laidByText := true, laidKinds := [.data], laidTests := true, laidLooks := .later }
def SumJoinsUptoCardSaid : Prop := Claim7.holds Tryd.pinned (.plain (OpenSpec.upto sumJoinsSpec)) sumJoinsUptoCard

/-- THE SECOND FORM's CARD OF 'tithebarnlaw01.SumEnds'. -/
def sumEndsUptoCard : Claim7 := { stood := { row := sumEndsUptoRow, standIns := [], harness := (true, "792b37fd9b8cd59c4613e44ef25c822d08069d25377940ca5000afcc3bdabb0f"), looks := false }, kinds := [], alts := [], laidByText := true, laidKinds := [.data], laidTests := true, laidLooks := .later }
def SumEndsUptoCardSaid : Prop := Claim7.holds Tryd.pinned (.plain (OpenSpec.upto sumEndsSpec)) sumEndsUptoCard

/-- THE SECOND FORM's CARD OF 'tithebarnlaw01.SumMasks'. -/
def sumMasksUptoCard : Claim7 := { stood := { row := sumMasksUptoRow, standIns := [], harness := (true, "792b37fd9b8cd59c4613e44ef25c822d08069d25377940ca5000afcc3bdabb0f"), looks := false }, kinds := [], alts := [], laidByText := true, laidKinds := [.data], laidTests := true, laidLooks := .later }
def SumMasksUptoCardSaid : Prop := Claim7.holds Tryd.pinned (.plain (OpenSpec.upto sumMasksSpec)) sumMasksUptoCard

/-- THE SECOND FORM's CARD OF 'tithebarnlaw01.SumWords'. -/
def sumWordsUptoCard : Claim7 := { stood := { row := sumWordsUptoRow, standIns := [], harness := (true, "792b37fd9b8cd59c4613e44ef25c822d08069d25377940ca5000afcc3bdabb0f"), looks := false }, kinds := [], alts := [], laidByText := true, laidKinds := [.data], laidTests := true, laidLooks := .later }
def SumWordsUptoCardSaid : Prop := Claim7.holds Tryd.pinned (.plain (OpenSpec.upto sumWordsSpec)) sumWordsUptoCard
end Rows
end Go.Proofs.YtnnkcohkgckclaaDoor
