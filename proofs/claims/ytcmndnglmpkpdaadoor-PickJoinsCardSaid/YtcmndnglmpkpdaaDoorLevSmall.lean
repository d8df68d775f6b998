/- The law's small: walked. -/
import Derived.Test.YtcmndnglmpkpdaaDoorLevTurn
import Derived.Test.YtcmndnglmpkpdaaDoorLevOpen
import Derived.Test.YtcmndnglmpkpdaaDoorLevAppI
namespace Go.Proofs.YtcmndnglmpkpdaaDoor.Tithe
open Go.RowKit Go.Sort Go.Shelf
set_option linter.unusedVariables false
set_option linter.unusedSimpArgs false
set_option maxRecDepth 100000
def plSmall (p : Int × Mr) : Bool := decide (p.2.1.refs.length ≤ 20) && (decide (p.2.1.a.u.size ≤ 200) && decide (p.2.1.b.u.size ≤ 200))
def edSmall (e : Ed) : Bool := decide (e.ps.length ≤ 10) && (decide (e.zs.length ≤ 10) && e.ps.all plSmall)
def smallB (l : List Ed) : Bool := l.all edSmall && decide (l.length ≤ 40)
theorem plSmall_no {p : Int × Mr} (h : 20 < p.2.1.refs.length ∨ 200 < p.2.1.a.u.size ∨ 200 < p.2.1.b.u.size) : plSmall p = false := by
  unfold plSmall
  rcases h with h | h | h
  · rw [decide_eq_false (by omega)]; rfl
  · rw [decide_eq_false (show ¬ p.2.1.a.u.size ≤ 200 by omega), Bool.false_and, Bool.and_false]
  · rw [decide_eq_false (show ¬ p.2.1.b.u.size ≤ 200 by omega), Bool.and_false, Bool.and_false]
theorem all_step {α : Type} {f : α → Bool} {l : List α} {k : Nat} {x : α} (hx : l[k]? = some x) (h : (l.take k).all f = true) (hf : f x = true) : (l.take (k + 1)).all f = true := by
  rw [List.take_add_one, hx, List.all_append, h]
  show (true && (f x && true)) = true
  rw [hf]; rfl
theorem all_bad {α : Type} {f : α → Bool} {l : List α} {k : Nat} {x : α} (hx : l[k]? = some x) (hf : f x = false) : l.all f = false := by
  rw [List.all_eq_false]
  exact ⟨x, List.mem_of_getElem? hx, by rw [hf]; decide⟩
theorem smallB_bad {l : List Ed} {k : Nat} {x : Ed} (hx : l[k]? = some x) (hf : edSmall x = false) : smallB l = false := by
  unfold smallB; rw [all_bad hx hf]; rfl
theorem edSmall_bad {e : Ed} {k : Nat} {p : Int × Mr} (hx : e.ps[k]? = some p) (hf : plSmall p = false) : edSmall e = false := by
  unfold edSmall; rw [all_bad hx hf, Bool.and_false, Bool.and_false]
theorem isEd_row {w W : World} {b off : Nat} {l : List Ed} (h : ∀ i x, l[i]? = some x → ∀ j y, (edC x)[j]? = some y → w.cell? ⟨b, off + i * 2 + j, none⟩ = some y) (hb : Below w.heap.size w W) {i : Nat} {x : Ed} (hx : l[i]? = some x) : W.cell? ⟨b, off + i * 2, none⟩ = some x.va ∧ W.cell? ⟨b, off + i * 2 + 1, none⟩ = some x.vd :=
  ⟨(hb.cell (block_lt_of_cell (h i x hx 0 _ rfl))).trans (h i x hx 0 _ rfl), (hb.cell (block_lt_of_cell (h i x hx 1 _ rfl))).trans (h i x hx 1 _ rfl)⟩
attribute [local go_sem] Oper.semAt_some
end Go.Proofs.YtcmndnglmpkpdaaDoor.Tithe
