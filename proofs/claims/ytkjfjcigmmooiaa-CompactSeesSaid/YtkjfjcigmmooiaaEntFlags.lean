/- The document's trimming, place by place: plain. -/
import Derived.Test.YtkjfjcigmmooiaaEntBools
namespace Go.Proofs.Ytkjfjcigmmooiaa.Tithe
open Go.RowKit Go.Sort Go.Shelf
set_option linter.unusedVariables false
theorem finK_len (cv : ByteArray → Bool) (A : List Mk) : (finK cv A).length = A.length := by
  have := congrArg List.length (finK_fst cv A)
  rwa [List.length_map, List.length_map] at this
theorem finK_drop (cv : ByteArray → Bool) : ∀ (i : Nat) (A : List Mk), (finK cv A).drop i = finK cv (A.drop i)
  | 0, _ => rfl
  | i + 1, [] => rfl
  | i + 1, x :: t => by
    show (_ :: finK cv t).drop (i + 1) = finK cv ((x :: t).drop (i + 1))
    rw [List.drop_succ_cons, List.drop_succ_cons]; exact finK_drop cv i t
/-- is there, of the places from i + 1 up to k, a kept one of the user? -/
def elderK (cv : ByteArray → Bool) (A : List Mk) (u : ByteArray) (i k : Nat) : Bool := (((finK cv A).drop (i + 1)).take k).any fun y => decide (y.1.key.u = u) && y.2
theorem finK_at (cv : ByteArray → Bool) (A : List Mk) {i : Nat} {x : Mk} (h : A[i]? = some x) : (finK cv A)[i]? = some (x.1, x.2 && !(decide (x.1.key.k = 2) && (!elderK cv A x.1.key.u i (A.length - (i + 1)) && !cv x.1.key.u))) := by
  have hlt := (List.getElem?_eq_some_iff.1 h).1
  have hd : A.drop i = x :: A.drop (i + 1) := by
    rw [List.drop_eq_getElem_cons hlt, (List.getElem?_eq_some_iff.1 h).2]
  have h0 : (finK cv A)[i]? = ((finK cv A).drop i)[0]? := by rw [List.getElem?_drop, Nat.add_zero]
  have he : elderK cv A x.1.key.u i (A.length - (i + 1)) = (finK cv (A.drop (i + 1))).any fun y => decide (y.1.key.u = x.1.key.u) && y.2 := by
    unfold elderK
    rw [List.take_of_length_le (by rw [List.length_drop, finK_len]; omega), finK_drop]
  rw [h0, finK_drop, hd, he]; rfl
theorem elderK_zero (cv : ByteArray → Bool) (A : List Mk) (u : ByteArray) (i : Nat) : elderK cv A u i 0 = false := by unfold elderK; simp
theorem elderK_succ (cv : ByteArray → Bool) (A : List Mk) (u : ByteArray) {i k : Nat} {y : Mk} (h : (finK cv A)[i + 1 + k]? = some y) : elderK cv A u i (k + 1) = (elderK cv A u i k || (decide (y.1.key.u = u) && y.2)) := by
  have h2 : ((finK cv A).drop (i + 1))[k]? = some y := by rw [List.getElem?_drop]; exact h
  unfold elderK
  rw [List.take_add_one, h2, List.any_append]; simp
end Go.Proofs.Ytkjfjcigmmooiaa.Tithe
