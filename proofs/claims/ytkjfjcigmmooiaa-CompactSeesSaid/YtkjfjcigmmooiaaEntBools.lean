/- A row of bools of a call's own. -/
import Derived.Test.YtkjfjcigmmooiaaEntKeepP
import Derived.Deep.OwnRows
namespace Go.Proofs.Ytkjfjcigmmooiaa.Tithe
open Go.RowKit Go.Sort Go.Shelf
set_option linter.unusedVariables false
set_option maxRecDepth 100000
def bA (n : Nat) (B : Nat → Bool) : Array Value := ((List.range n).map fun j => Value.bool (B j)).toArray
theorem bA_size (n : Nat) (B : Nat → Bool) : (bA n B).size = n := by unfold bA; simp
theorem bA_get {n : Nat} (B : Nat → Bool) {j : Nat} (h : j < n) : (bA n B)[j]? = some (.bool (B j)) := by unfold bA; simp [h]
theorem bA_set {n : Nat} (B : Nat → Bool) {j : Nat} (h : j < n) (b : Bool) : (bA n B).setIfInBounds j (.bool b) = bA n (fun k => if k = j then b else B k) := by
  apply Array.ext_getElem?
  intro k
  rw [Array.getElem?_setIfInBounds]
  by_cases e : j = k
  · subst e
    rw [if_pos rfl, bA_size, if_pos h, bA_get _ h, if_pos rfl]
  · rw [if_neg e]
    by_cases hk : k < n
    · rw [bA_get _ hk, bA_get _ hk, if_neg (fun q => e q.symm)]
    · rw [Array.getElem?_eq_none (by rw [bA_size]; omega), Array.getElem?_eq_none (by rw [bA_size]; omega)]
theorem bA_congr {n : Nat} {B B' : Nat → Bool} (h : ∀ j, j < n → B j = B' j) : bA n B = bA n B' := by
  unfold bA
  congr 1
  exact List.map_congr_left fun j hj => by rw [h j (List.mem_range.1 hj)]
theorem bA_made (n : Nat) : madeCells #[Value.bool false] n = bA n (fun _ => false) := by
  apply Array.ext_getElem?
  intro k
  by_cases hk : k < n
  · rw [bA_get _ hk]
    unfold madeCells
    simp [hk, Nat.mod_one]
  · have h1 : (bA n (fun _ => false))[k]? = none := Array.getElem?_eq_none (by rw [bA_size]; omega)
    rw [h1]
    unfold madeCells
    simp; omega
theorem boolInfo : (Try.prog.info? 4).map (fun i => (i.zero, i.size, i.bytes)) = some (some (.bool false), 1, 1) := by kernel_rfl
theorem blk_bset {W : World} {b n j : Nat} {B : Nat → Bool} (h : W.heap[b]? = some (.cells (bA n B) 4 (0, 0))) (hj : j < n) (x : Bool) : (W.setCell ⟨b, j, none⟩ (.bool x)).heap[b]? = some (.cells (bA n (fun k => if k = j then x else B k)) 4 (0, 0)) := by
  rw [← bA_set B hj x]
  exact blk_set h
end Go.Proofs.Ytkjfjcigmmooiaa.Tithe
