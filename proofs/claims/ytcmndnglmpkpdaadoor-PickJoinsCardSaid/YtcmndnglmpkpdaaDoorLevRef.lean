/- The document's own answers on keys, and law 15's turning of metas: walked. -/
import Derived.Test.YtcmndnglmpkpdaaDoorLevChk
namespace Go.Proofs.YtcmndnglmpkpdaaDoor.Tithe
open Go.RowKit Go.Sort Go.Shelf
set_option linter.unusedVariables false
set_option maxRecDepth 100000
end Go.Proofs.YtcmndnglmpkpdaaDoor.Tithe
