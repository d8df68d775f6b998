/- The document's Has: walked. -/
import Derived.Test.YtcmndnglmpkpdaaDoorRefEdit
import Derived.Test.YtcmndnglmpkpdaaDoorLevAppP
namespace Go.Proofs.YtcmndnglmpkpdaaDoor.Tithe
open Go.RowKit Go.Sort Go.Shelf
set_option linter.unusedVariables false
set_option linter.unusedSimpArgs false
set_option maxRecDepth 100000
theorem hasP_at {L : Lv} {z : Int} {n i : Nat} (hn : n < 4) (h1 : ∀ m, m < n → (L m).findIdx? (fun x => decide (x.z = z)) = none) (h2 : (L n).findIdx? (fun x => decide (x.z = z)) = some i) : hasP L z = some (n, i) := by
  unfold hasP
  simp only [hasF, Nat.zero_add, Nat.reduceAdd]
  match n, hn with
  | 0, _ => rw [h2]
  | 1, _ => rw [h1 0 (by omega), h2]
  | 2, _ => rw [h1 0 (by omega), h1 1 (by omega), h2]
  | 3, _ => rw [h1 0 (by omega), h1 1 (by omega), h1 2 (by omega), h2]
theorem hasP_no {L : Lv} {z : Int} (h1 : ∀ m, m < 4 → (L m).findIdx? (fun x => decide (x.z = z)) = none) : hasP L z = none := by
  unfold hasP
  simp only [hasF, Nat.zero_add, Nat.reduceAdd, h1 0 (by omega), h1 1 (by omega), h1 2 (by omega), h1 3 (by omega)]
/-- what the document's Has answers -/
def Has15 (V : Vn) (z : Int) (w : World) (e : Ending) (w' : World) : Prop := w = w' ∧ match hasP (lvOf V.l) z with
  | none => e = .returned (.tuple #[.int .i64 (-1), .int .i64 (-1)])
  | some p => p.1 < 4 ∧ p.2 < (V.l p.1).length ∧ e = .returned (.tuple #[.int .i64 (p.1 : Nat), .int .i64 (p.2 : Nat)])
theorem has15_mk_no {V : Vn} {z : Int} {w : World} (h : ∀ m, m < 4 → (V.l m).findIdx? (zAt z) = none) : Has15 V z w (.returned (.tuple #[.int .i64 (-1), .int .i64 (-1)])) w := by
  refine ⟨rfl, ?_⟩
  rw [hasP_no (L := lvOf V.l) (fun m hm => (findIdx_map _ _).trans (h m hm))]
theorem has15_mk {V : Vn} {z : Int} {w : World} {n i : Nat} (hn : n < 4) (hi : i < (V.l n).length) (h1 : ∀ m, m < n → (V.l m).findIdx? (zAt z) = none) (h2 : (V.l n).findIdx? (zAt z) = some i) : Has15 V z w (.returned (.tuple #[.int .i64 (n : Nat), .int .i64 (i : Nat)])) w := by
  refine ⟨rfl, ?_⟩
  rw [hasP_at (L := lvOf V.l) hn (fun m hm => (findIdx_map _ _).trans (h1 m hm)) ((findIdx_map _ _).trans h2)]
  exact ⟨hn, hi, rfl⟩
attribute [local go_sem] Oper.semAt_some
end Go.Proofs.YtcmndnglmpkpdaaDoor.Tithe
