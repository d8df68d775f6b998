/- The cursor's state as a place in the one list. -/
import Derived.Test.YtcgkpbhoiaeolaaMergeIs
namespace Go.Proofs.Ytcgkpbhoiaeolaa.Tithe
open Go.RowKit Go.Sort Go.Shelf
set_option linter.unusedVariables false
def stAt (M : List It) (z : Int) : It × Bool := if 0 ≤ z ∧ z < M.length then (M.getD z.toNat (0, 0), true) else ((0, 0), false)
theorem stAt_in {M : List It} {t : Nat} (h : t < M.length) : stAt M (t : Int) = (M.getD t (0, 0), true) := by
  unfold stAt; rw [if_pos (by omega), Int.toNat_natCast]
theorem stAt_out {M : List It} {z : Int} (h : z < 0 ∨ (M.length : Int) ≤ z) : stAt M z = ((0, 0), false) := by
  unfold stAt; rw [if_neg (by omega)]
theorem outF_at (M : List It) (t : Nat) : outF M[t]? = stAt M (t : Int) := by
  rcases Nat.lt_or_ge t M.length with q | q
  · rw [stAt_in q, List.getElem?_eq_getElem q, List.getD_eq_getElem?_getD, List.getElem?_eq_getElem q]; rfl
  · rw [stAt_out (.inr (by omega)), List.getElem?_eq_none q]; rfl
theorem at_first {ls : List (List It)} (h : ∀ r ∈ ls, Asc r) : curFirst ls = stAt (oneL ls) 0 := by
  rw [curFirst_one h, outF_at]; rfl
theorem at_last {ls : List (List It)} (h : ∀ r ∈ ls, Asc r) : curLast ls = stAt (oneL ls) ((oneL ls).length - 1) := by
  rw [curLast_one h]
  by_cases q : (oneL ls).length = 0
  · rw [if_pos q, stAt_out (.inl (by omega))]; rfl
  · rw [if_neg q, outF_at]; congr 1; omega
theorem at_seek {ls : List (List It)} (h : ∀ r ∈ ls, Asc r) (K : Int) : curSeek ls K = stAt (oneL ls) (ceilL (oneL ls) K : Nat) := by
  rw [curSeek_one h, outF_at]
theorem getD_fst {M : List It} {t : Nat} (h : t < M.length) : (M.getD t (0, 0)).1 = M[t].1 := by
  rw [List.getD_eq_getElem?_getD, List.getElem?_eq_getElem h]; rfl
theorem at_next {ls : List (List It)} (h : ∀ r ∈ ls, Asc r) {t : Nat} (ht : t < (oneL ls).length) : curNext ls ((oneL ls).getD t (0, 0)).1 = stAt (oneL ls) ((t : Int) + 1) := by
  rw [getD_fst ht, curNext_one h ht, outF_at]; rfl
theorem at_prev {ls : List (List It)} (h : ∀ r ∈ ls, Asc r) {t : Nat} (ht : t < (oneL ls).length) : curPrev ls ((oneL ls).getD t (0, 0)).1 = stAt (oneL ls) ((t : Int) - 1) := by
  rw [getD_fst ht, curPrev_one h ht]
  by_cases q : t = 0
  · subst q; rw [if_pos rfl, stAt_out (.inl (by omega))]; rfl
  · rw [if_neg q, outF_at]; congr 1; omega
end Go.Proofs.Ytcgkpbhoiaeolaa.Tithe
