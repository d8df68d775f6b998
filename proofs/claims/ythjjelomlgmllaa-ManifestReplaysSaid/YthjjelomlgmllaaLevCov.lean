/- Meta.Covers, Version.Deeper, Version.Live: walked. -/
import Derived.Test.YthjjelomlgmllaaLevHas
namespace Go.Proofs.Ythjjelomlgmllaa.Tithe
open Go.RowKit Go.Sort Go.Shelf
set_option linter.unusedVariables false
set_option maxRecDepth 100000
theorem leq_cmpB (a b : ByteArray) : (Op.bytesLess a.toList b.toList || a.toList == b.toList) = decide (cmpB a b ≤ 0) := by
  rw [less_cmpB, beq_cmpB]
  have := cmpB_range a b
  by_cases h : cmpB a b < 0
  · simp [h, Int.le_of_lt h]
  · by_cases h2 : cmpB a b = 0
    · simp [h2]
    · have h3 : ¬ cmpB a b ≤ 0 := by omega
      simp [h, h2, h3]
/-- does a meta cover a user's key? -/
def coverB (a b : Ky) (u : ByteArray) : Bool := decide (cmpB a.u u ≤ 0) && decide (cmpB u b.u ≤ 0)
/-! ### Deeper -/
def deepB (ts : List (Nat × Mr)) (lv : Int) (u : ByteArray) : Bool := ts.any fun p => decide (lv < (p.1 : Int)) && coverB p.2.1.a p.2.1.b u
def DeepI (w : World) (V : Vn) (lv : Int) (u : ByteArray) (k : Nat) (W : World) : Prop :=
  W.heap[w.heap.size]? = some (.cells V.cells 61 (0, 0)) ∧ W.heap[w.heap.size + 1]? = some (.cells #[.int .i64 lv] 3 (0, 0)) ∧ W.heap[w.heap.size + 1 + 1]? = some (.cells #[.string u] 9 (0, 0)) ∧ W.heap[w.heap.size + 1 + 1 + 1]? = some (.cells #[.bool false] 4 (0, 0)) ∧
  W.heap[w.heap.size + 1 + 1 + 1 + 1]? = some (.cells #[.pointer (some ⟨w.heap.size, 0, none⟩)] 140 (0, 0)) ∧ Below w.heap.size w W ∧ ∀ j q, j < k → (tabs V.l 4)[j]? = some q → (decide (lv < (q.1 : Int)) && coverB q.2.1.a q.2.1.b u) = false
theorem deepI_own {w : World} {V : Vn} {lv : Int} {u : ByteArray} {B : Nat} (hB : w.heap.size ≤ B) : OwnFrom B (DeepI w V lv u) :=
  st_and (st_blk _ _ _ _) (st_and (st_blk _ _ _ _) (st_and (st_blk _ _ _ _) (st_and (st_blk _ _ _ _) (st_and (st_blk _ _ _ _) (st_and (st_below (Nat.le_refl _) hB) (st_pure _))))))
def DeepX (w : World) (V : Vn) (lv : Int) (u : ByteArray) (c : Code) (k : Nat) (W : World) : Prop :=
  c = .ret ∧ deepB (tabs V.l 4) lv u = true ∧ W.heap[w.heap.size + 1 + 1 + 1]? = some (.cells #[.bool true] 4 (0, 0)) ∧ Below w.heap.size w W
theorem deepX_own {w : World} {V : Vn} {lv : Int} {u : ByteArray} {B : Nat} (hB : w.heap.size ≤ B) (c : Code) : OwnFrom B (DeepX w V lv u c) :=
  st_and (st_pure _) (st_and (st_pure _) (st_and (st_blk _ _ _ _) (st_below (Nat.le_refl _) hB)))
attribute [local go_sem] Oper.semAt_some
end Go.Proofs.Ythjjelomlgmllaa.Tithe
