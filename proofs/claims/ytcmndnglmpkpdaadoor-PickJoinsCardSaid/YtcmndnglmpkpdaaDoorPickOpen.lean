/- The table of chapter 17 in a row's list; the world of the witness. -/
import Derived.Test.YtcmndnglmpkpdaaDoorPickNext
import Derived.Test.YtcmndnglmpkpdaaDoorLevOpen
import Derived.Test.YtcmndnglmpkpdaaDoorCards
import Derived.Test.YtcmndnglmpkpdaaDoorTie
import Derived.Deep.DeepHandedRow
import Derived.Lib.LaidTab
namespace Go.Proofs.YtcmndnglmpkpdaaDoor.Tithe
open Go.RowKit Go.ChangeShapes Go.WideShapes Go.ChangeAt
set_option linter.unusedVariables false
def capZ : List Int := [2, 4, 8]
theorem gTab : Tryd.prog.globalNamed "tithebarn/pick.caps" = some 0 := by kernel_rfl
theorem gTabType : (Tryd.prog.globals[0]?).map (·.type) = some 78 := by kernel_rfl
theorem cellsTab : Tryd.prog.cellsOf 78 = 3 := by kernel_rfl
theorem cellsI : Tryd.prog.cellsOf 3 = 1 := by kernel_rfl
theorem tab_of {rest : List (String × DataW Unit)} {W : World} (h : laidMet Tryd.prog (("tithebarn/pick.caps", Lib.tabData .i64 capZ) :: rest) W) : TabOk W := by
  have ht := Lib.tabIs_of_head gTab gTabType Tryd.underlying78 Tryd.underlying3 cellsI cellsTab h
  exact ⟨ht.cell gTab 0 (by decide), ht.cell gTab 1 (by decide), ht.cell gTab 2 (by decide)⟩
set_option maxRecDepth 100000 in
theorem isDz_in {H : Type} {enc : TypeId × Value → H} {w : World} {base : Nat} {v : Value} {d : DataW H} {p : List MemPlace}
    (hv : Value.okWide Tryd.prog w .any base 32 v) (h : DataW.Trod enc Tryd.prog w 0 (fun _ => true) true 32 v d p) : ∃ l : List Int, IsDz w v l := by
  obtain ⟨l, h1, -⟩ := isSl_inQ dzC (fun _ => True) 1 (by decide) dzC_len Tryd.underlying32 (by kernel_rfl) dz_in hv h
  exact ⟨l, h1⟩
/-- A WORLD FOR THE WITNESS: the settled one, the table holding what its initialiser lays. -/
noncomputable def laidTab (os : Os) : World :=
  { World.holding Tryd.prog os ⟨#[], #[], []⟩ with heap := (World.holding Tryd.prog os ⟨#[], #[], []⟩).heap.modify 0 fun
      | .cells _ t frozen => .cells #[.int .i64 2, .int .i64 4, .int .i64 8] t frozen
      | o => o }
end Go.Proofs.YtcmndnglmpkpdaaDoor.Tithe
