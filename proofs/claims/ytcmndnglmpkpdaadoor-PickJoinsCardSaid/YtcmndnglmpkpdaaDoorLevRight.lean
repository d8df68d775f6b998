/- The document's own answer: is a meta right? walked. -/
import Derived.Test.YtcmndnglmpkpdaaDoorLevRef
namespace Go.Proofs.YtcmndnglmpkpdaaDoor.Tithe
open Go.RowKit Go.Sort Go.Shelf
set_option linter.unusedVariables false
set_option linter.unusedSimpArgs false
set_option maxRecDepth 100000
theorem refsOk_false {l : List (Int × Int)} {k : Nat} (h : refOk l k = false) : ∀ n, k < n → refsOk l n = false
  | 0, hn => by omega
  | n + 1, hn => by
    show (refsOk l n && refOk l n) = false
    by_cases e : k = n
    · subst e; rw [h, Bool.and_false]
    · rw [refsOk_false h n (by omega)]; rfl
end Go.Proofs.YtcmndnglmpkpdaaDoor.Tithe
