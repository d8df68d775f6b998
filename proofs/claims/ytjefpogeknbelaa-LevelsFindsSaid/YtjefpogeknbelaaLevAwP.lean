/- The fixed answer of chapter 15, plain. -/
import Derived.Test.YtjefpogeknbelaaLevAppC
namespace Go.Proofs.Ytjefpogeknbelaa.Tithe
open Go.RowKit Go.Sort Go.Shelf
set_option linter.unusedVariables false
def aw3 : Mt := ⟨3, 1, ⟨⟨#[97]⟩, 2, 1⟩, ⟨⟨#[99]⟩, 1, 1⟩, []⟩
theorem aw_apply : ∃ L', applyP (lvOf Vn.none.l) [] [(1, aw3)] = some L' ∧ L' 0 = [] ∧ L' 1 = [aw3] ∧ L' 2 = [] ∧ L' 3 = [] := ⟨_, rfl, rfl, rfl, rfl, rfl⟩
theorem aw_check : metaOk 0 0 ⟨⟨#[]⟩, 0, 0⟩ ⟨⟨#[]⟩, 0, 0⟩ [] = false := rfl
end Go.Proofs.Ytjefpogeknbelaa.Tithe
