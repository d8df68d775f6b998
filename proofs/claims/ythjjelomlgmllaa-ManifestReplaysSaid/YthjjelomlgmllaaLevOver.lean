/- Version.Over, At: walked. -/
import Derived.Test.YthjjelomlgmllaaLevOwn
namespace Go.Proofs.Ythjjelomlgmllaa.Tithe
open Go.RowKit Go.Sort Go.Shelf
set_option linter.unusedVariables false
set_option linter.unusedSimpArgs false
set_option maxRecDepth 100000
/-! ### Over -/
def overB (lv : Int) (sm lg : ByteArray) (p : Nat × Mr) : Bool := decide ((p.1 : Int) = lv) && (decide (cmpB sm lg ≤ 0) && (decide (cmpB p.2.1.a.u lg ≤ 0) && decide (cmpB sm p.2.1.b.u ≤ 0)))
def OverI (w : World) (base : Nat) (V : Vn) (lv : Int) (sm lg : ByteArray) (k : Nat) (W : World) : Prop :=
  W.heap[w.heap.size]? = some (.cells V.cells 61 (0, 0)) ∧ W.heap[w.heap.size + 1]? = some (.cells #[.int .i64 lv] 3 (0, 0)) ∧ W.heap[w.heap.size + 1 + 1]? = some (.cells #[.string sm] 9 (0, 0)) ∧ W.heap[w.heap.size + 1 + 1 + 1]? = some (.cells #[.string lg] 9 (0, 0)) ∧
  (∃ x rows, W.heap[w.heap.size + 1 + 1 + 1 + 1]? = some (.cells #[x] 58 (0, 0)) ∧ OwnMs W base x rows ∧ rows.map (·.1) = (((tabs V.l 4).take k).filter (overB lv sm lg)).map (·.2.1)) ∧
  W.heap[w.heap.size + 1 + 1 + 1 + 1 + 1]? = some (.cells #[.pointer (some ⟨w.heap.size, 0, none⟩)] 140 (0, 0)) ∧ Below w.heap.size w W
theorem overI_own {w : World} {base : Nat} {V : Vn} {lv : Int} {sm lg : ByteArray} {B : Nat} (hB : w.heap.size ≤ B) : OwnFrom B (OverI w base V lv sm lg) :=
  st_and (st_blk _ _ _ _) (st_and (st_blk _ _ _ _) (st_and (st_blk _ _ _ _) (st_and (st_blk _ _ _ _) (st_and (st_ex fun x => st_ex fun rows => st_and (st_blk _ _ _ _) (st_and (st_ms _ _ _) (st_pure _))) (st_and (st_blk _ _ _ _) (st_below (Nat.le_refl _) hB))))))
attribute [local go_sem] Oper.semAt_some
--@[
end Go.Proofs.Ythjjelomlgmllaa.Tithe
