/- What covers a key of a right version, plain. -/
import Derived.Test.YtcmndnglmpkpdaaDoorLevPlayP
namespace Go.Proofs.YtcmndnglmpkpdaaDoor.Tithe
open Go.RowKit Go.Sort Go.Shelf
set_option linter.unusedVariables false
theorem cmpK_user {a b : Ky} (h : cmpK a b ≤ 0) : cmpB a.u b.u ≤ 0 := by
  by_cases e : cmpK a b < 0
  · exact cmpK_le a b e
  · rw [cmpK_zero (show cmpK a b = 0 by omega), cmpB_self]; omega
theorem mOk_ab {m : Mt} (h : mOk m = true) : cmpB m.a.u m.b.u ≤ 0 := by
  unfold mOk metaOk headOk at h
  simp only [Bool.and_eq_true, decide_eq_true_eq] at h
  exact cmpK_user h.1.2
theorem verOk_apart {l : Nat → List Mr} (h : verOk l = true) {n : Nat} (h1 : 1 ≤ n) (hn : n < 4) : (l n).Pairwise fun x y => cmpB x.1.b.u y.1.a.u < 0 := by
  rw [List.pairwise_iff_getElem]
  intro i j hi hj hij
  have hs := verOk_sep h h1 hn
  have h2 := sepOk_at hs (show i + 1 < (l n).length by omega)
  unfold sepAt at h2
  rw [List.getD_eq_getElem?_getD, List.getD_eq_getElem?_getD, show i + 1 - 1 = i by omega, List.getElem?_eq_getElem hi, List.getElem?_eq_getElem (show i + 1 < (l n).length by omega)] at h2
  have h4 : cmpB (l n)[i].1.b.u (l n)[i + 1].1.a.u < 0 := by simpa using h2
  by_cases e : i + 1 = j
  · subst e; exact h4
  · have h5 := verOk_sort h h1 hn (i + 1) j _ _ (by omega) (List.getElem?_eq_getElem (by omega)) (List.getElem?_eq_getElem hj)
    exact cmpB_lt_trans h4 (cmpK_user h5)
/-- those of a level that overlap a range -/
def covR (s g : ByteArray) (r : Mr) : Bool := decide (cmpB s g ≤ 0) && (decide (cmpB r.1.a.u g ≤ 0) && decide (cmpB s r.1.b.u ≤ 0))
theorem lev_filter (l : List Mr) (k n : Nat) (s g : ByteArray) : (l.map fun r => (k, r)).filter (overB (n : Int) s g) = if k = n then (l.filter (covR s g)).map (fun r => (k, r)) else [] := by
  rw [List.filter_map]
  by_cases e : k = n
  · subst e
    rw [if_pos rfl]
    congr 1
    apply List.filter_congr
    intro r hr
    show overB (k : Int) s g (k, r) = covR s g r
    unfold overB covR
    rw [decide_eq_true rfl, Bool.true_and]
  · rw [if_neg e, List.map_eq_nil_iff, List.filter_eq_nil_iff]
    intro r hr
    show ¬ overB (n : Int) s g (k, r) = true
    unfold overB
    rw [decide_eq_false (show ¬ (k : Int) = n by omega), Bool.false_and]; exact Bool.false_ne_true
theorem over_level (l : Nat → List Mr) {n : Nat} (hn : n < 4) (s g : ByteArray) : (tabs l 4).filter (overB (n : Int) s g) = ((l n).filter (covR s g)).map fun r => (n, r) := by
  have ht : tabs l 4 = (((([] ++ (l 0).map fun r => (0, r)) ++ (l 1).map fun r => (1, r)) ++ (l 2).map fun r => (2, r)) ++ (l 3).map fun r => (3, r)) := rfl
  rw [ht, List.filter_append, List.filter_append, List.filter_append, List.filter_append, lev_filter, lev_filter, lev_filter, lev_filter]
  match n, hn with
  | 0, _ => simp
  | 1, _ => simp
  | 2, _ => simp
  | 3, _ => simp
theorem at_one {l : Nat → List Mr} (h : verOk l = true) {n : Nat} (h1 : 1 ≤ n) (hn : n < 4) (u : ByteArray) : ((tabs l 4).filter (overB (n : Int) u u)).length ≤ 1 := by
  rw [over_level l hn, List.length_map]
  have hp := (verOk_apart h h1 hn).sublist (List.filter_sublist (p := covR u u))
  have hc : ∀ r ∈ (l n).filter (covR u u), cmpB r.1.a.u u ≤ 0 ∧ cmpB u r.1.b.u ≤ 0 := by
    intro r hr
    have := (List.mem_filter.1 hr).2
    unfold covR at this
    simp only [Bool.and_eq_true, decide_eq_true_eq] at this
    exact this.2
  match h3 : (l n).filter (covR u u), hp, hc with
  | [], _, _ => exact Nat.zero_le _
  | [_], _, _ => exact Nat.le_refl _
  | x :: y :: t, hp, hc =>
    have e1 := (List.pairwise_cons.1 hp).1 y (by simp)
    have e2 := (hc x (by simp)).2
    have e3 := (hc y (by simp)).1
    have := cmpB_lt_trans (cmpB_trans_lt e2 e1) e3
    rw [cmpB_self] at this
    omega
theorem over_row {l : Nat → List Mr} {n : Int} {s g : ByteArray} {rows : List Mr} (hr : rows.map (·.1) = ((tabs l 4).filter (overB n s g)).map (·.2.1)) {i : Nat} {r : Mr} (h : rows[i]? = some r) : (cmpB r.1.a.u g ≤ 0 ∧ cmpB s r.1.b.u ≤ 0) ∧ ∃ p ∈ tabs l 4, p.2.1 = r.1 := by
  have hm : r.1 ∈ ((tabs l 4).filter (overB n s g)).map (·.2.1) := by rw [← hr]; exact List.mem_map.2 ⟨r, List.mem_of_getElem? h, rfl⟩
  obtain ⟨p, hp, e⟩ := List.mem_map.1 hm
  have h2 := (List.mem_filter.1 hp).2
  unfold overB at h2
  simp only [Bool.and_eq_true, decide_eq_true_eq] at h2
  rw [← e]
  exact ⟨h2.2.2, p, (List.mem_filter.1 hp).1, rfl⟩
theorem not_cover_a {a b : Ky} {u : ByteArray} (h : coverB a b u = false) (h2 : cmpB u b.u ≤ 0) : ¬ cmpB a.u u < 0 := by
  unfold coverB at h
  rw [decide_eq_true h2, Bool.and_true, decide_eq_false_iff_not] at h
  omega
theorem not_cover_b {a b : Ky} {u : ByteArray} (h : coverB a b u = false) (h2 : cmpB a.u u ≤ 0) : ¬ cmpB u b.u < 0 := by
  unfold coverB at h
  rw [decide_eq_true h2, Bool.true_and, decide_eq_false_iff_not] at h
  omega
end Go.Proofs.YtcmndnglmpkpdaaDoor.Tithe
