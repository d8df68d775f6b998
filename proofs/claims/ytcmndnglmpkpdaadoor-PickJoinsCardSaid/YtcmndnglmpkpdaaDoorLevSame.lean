/- The law's equal and same of like metas; small: walked. -/
import Derived.Test.YtcmndnglmpkpdaaDoorLevTurn
import Derived.Test.YtcmndnglmpkpdaaDoorLevOpen
import Derived.BigQuiet
namespace Go.Proofs.YtcmndnglmpkpdaaDoor.Tithe
open Go.RowKit Go.Sort Go.Shelf
set_option linter.unusedVariables false
set_option linter.unusedSimpArgs false
set_option maxRecDepth 100000
attribute [local go_sem] Oper.semAt_some
theorem IsRr.two {w : World} {b off : Nat} {l : List (Int × Int)} (h : ∀ i x, l[i]? = some x → ∀ j y, (rfC x)[j]? = some y → w.cell? ⟨b, off + i * 2 + j, none⟩ = some y) {i : Nat} {x : Int × Int} (hx : l[i]? = some x) :
    w.cell? ⟨b, off + i * 2, none⟩ = some (.int .i64 x.1) ∧ w.cell? ⟨b, off + i * 2 + 1, none⟩ = some (.int .i64 x.2) := ⟨h i x hx 0 _ rfl, h i x hx 1 _ rfl⟩
end Go.Proofs.YtcmndnglmpkpdaaDoor.Tithe
