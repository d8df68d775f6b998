/- A table that is added and dropped again, plain. -/
import Derived.Test.YtcmndnglmpkpdaaDoorLevPlayP
namespace Go.Proofs.YtcmndnglmpkpdaaDoor.Tithe
open Go.RowKit Go.Sort Go.Shelf
set_option linter.unusedVariables false
/-- of a right version no two tables have one zone -/
theorem verOkP_diff {L : Lv} (h : verOkP L = true) {n n' i i' : Nat} {x y : Mt} (hn : n < 4) (hn' : n' < 4) (hx : (L n)[i]? = some x) (hy : (L n')[i']? = some y) (hz : x.z = y.z) : n = n' ∧ i = i' := by
  have key : ∀ {p q : Nat} {s t : Nat × Mr}, p < q → (tabs (rowsOf L) 4)[p]? = some s → (tabs (rowsOf L) 4)[q]? = some t → s.2.1.z = t.2.1.z → False := by
    intro p q s t hpq hp hq e
    have hv := h
    unfold verOkP verOk at hv
    rw [Bool.and_eq_true] at hv
    have ht := tabsOk_lt hv.1 (List.getElem?_eq_some_iff.1 hq).1
    unfold tabOk at ht
    rw [Bool.and_eq_true] at ht
    have hq' : (tabs (rowsOf L) 4).getD q (0, Mr.nil) = t := by rw [List.getD_eq_getElem?_getD, hq]; rfl
    have hp' : (tabs (rowsOf L) 4).getD p (0, Mr.nil) = s := by rw [List.getD_eq_getElem?_getD, hp]; rfl
    have : seenZ (tabs (rowsOf L) 4) q ((tabs (rowsOf L) 4).getD q (0, Mr.nil)).2.1.z.toNat = true := (seenZ_iff _ _ q).2 ⟨p, hpq, by rw [hp', hq', e]⟩
    rw [this] at ht
    exact absurd ht.2 (by decide)
  have ex : (rowsOf L n)[i]? = some (x, .slice none 0 0) := by unfold rowsOf; rw [List.getElem?_map, hx]; rfl
  have ey : (rowsOf L n')[i']? = some (y, .slice none 0 0) := by unfold rowsOf; rw [List.getElem?_map, hy]; rfl
  have tx := tabs_at (rowsOf L) hn ex
  have ty := tabs_at (rowsOf L) hn' ey
  have hpq : (tabs (rowsOf L) n).length + i = (tabs (rowsOf L) n').length + i' := by
    rcases Nat.lt_trichotomy ((tabs (rowsOf L) n).length + i) ((tabs (rowsOf L) n').length + i') with q | q | q
    · exact (key q tx ty hz).elim
    · exact q
    · exact (key q ty tx hz.symm).elim
  rw [hpq, ty] at tx
  injection tx with e
  have en : n' = n := (Prod.mk.inj e).1
  subst en
  exact ⟨rfl, by omega⟩
theorem insP_le (l : List Mt) (k : Ky) : insP l k ≤ l.length := by
  unfold insP
  split
  · rename_i i h
    exact Nat.le_of_lt (List.findIdx?_eq_some_iff_getElem.1 h).1
  · exact Nat.le_refl _
theorem ins_at {α : Type} {l : List α} {i : Nat} (h : i ≤ l.length) (m : α) : (l.take i ++ m :: l.drop i)[i]? = some m := by
  rw [List.getElem?_append_right (by rw [List.length_take]; omega), List.length_take, Nat.min_eq_left h, Nat.sub_self]; rfl
theorem ins_erase {α : Type} {l : List α} {i : Nat} (h : i ≤ l.length) (m : α) : (l.take i ++ m :: l.drop i).eraseIdx i = l := by
  rw [List.eraseIdx_append_of_length_le (by rw [List.length_take]; omega), List.length_take, Nat.min_eq_left h, Nat.sub_self]
  show l.take i ++ l.drop i = l
  rw [List.take_append_drop]
theorem upd_same (L : Lv) (n : Nat) (x : List Mt) : L.upd n x n = x := by unfold Lv.upd; rw [if_pos rfl]
theorem upd_other (L : Lv) {n m : Nat} (h : m ≠ n) (x : List Mt) : L.upd n x m = L m := by unfold Lv.upd; rw [if_neg h]
structure Undone (L L1 : Lv) (lv : Int) (m : Mt) : Prop where
  ex : ∃ n i : Nat, lv = n ∧ n < 4 ∧ hasP L1 m.z = some (n, i) ∧ (∀ k, k ≠ n → L1 k = L k) ∧ (L1 n).length = (L n).length + 1 ∧ ∃ L2 : Lv, applyP L1 [m.z] [] = some L2 ∧ LvE L2 L
theorem undo_plain {L L1 : Lv} {lv : Int} {m : Mt} (hv : verOkP L = true) (ha : applyP L [] [(lv, m)] = some L1) : Undone L L1 lv m := by
  have e0 : applyP L [] [(lv, m)] = match addP L (-1) (lv, m) with | none => none | some L' => if verOkP L' = true then some L' else none := rfl
  rw [e0] at ha
  unfold addP at ha
  by_cases hr : lv < 0 ∨ 4 ≤ lv
  · rw [if_pos hr] at ha; cases ha
  · rw [if_neg hr] at ha
    dsimp only at ha
    obtain ⟨n, hn⟩ : ∃ n : Nat, lv = n := ⟨lv.toNat, by omega⟩
    subst hn
    have hn4 : n < 4 := by omega
    rw [Int.toNat_natCast] at ha
    obtain ⟨i, hi⟩ : ∃ i, i = addAt L (-1) ((n : Int), m) := ⟨_, rfl⟩
    rw [← hi] at ha
    have hle : i ≤ (L n).length := by
      rw [hi]
      unfold addAt
      split
      · rw [Int.toNat_natCast]; exact insP_le _ _
      · exact Nat.le_trans (by decide) (Nat.zero_le _)
    split at ha
    · rename_i hv1
      injection ha with ha
      subst ha
      have hat : (L.upd n ((L n).take i ++ m :: (L n).drop i) n)[i]? = some m := by rw [upd_same]; exact ins_at hle m
      have hh : hasP (L.upd n ((L n).take i ++ m :: (L n).drop i)) m.z = some (n, i) := by
        refine hasP_at hn4 (fun k hk => ?_) ?_
        · rw [List.findIdx?_eq_none_iff]
          intro x hx
          rw [decide_eq_false_iff_not]
          intro hz
          obtain ⟨j, hj⟩ := List.mem_iff_getElem?.1 hx
          have := (verOkP_diff hv1 (by omega) hn4 hj hat hz).1
          omega
        · rw [List.findIdx?_eq_some_iff_getElem]
          refine ⟨(List.getElem?_eq_some_iff.1 hat).1, ?_, fun j hj => ?_⟩
          · rw [(List.getElem?_eq_some_iff.1 hat).2]; exact decide_eq_true rfl
          · intro hz
            rw [decide_eq_true_eq] at hz
            have hlt : j < (L.upd n ((L n).take i ++ m :: (L n).drop i) n).length := Nat.lt_trans hj (List.getElem?_eq_some_iff.1 hat).1
            have := (verOkP_diff hv1 hn4 hn4 (List.getElem?_eq_getElem hlt) hat hz).2
            omega
      refine ⟨n, i, rfl, hn4, hh, fun k hk => upd_other L hk _, ?_, ?_⟩
      · rw [upd_same, List.length_append, List.length_cons, List.length_take, List.length_drop]; omega
      · refine ⟨(L.upd n ((L n).take i ++ m :: (L n).drop i)).upd n (((L.upd n ((L n).take i ++ m :: (L n).drop i)) n).eraseIdx i), ?_, ?_⟩
        · have e1 : ∀ (M : Lv) (z : Int), applyP M [z] [] = match dropP (M, -1) z with | none => none | some st => if verOkP st.1 = true then some st.1 else none := by
            intro M z
            show (match dropP (M, -1) z with | none => none | some st => _) = _
            cases dropP (M, -1) z <;> rfl
          rw [e1]
          unfold dropP
          dsimp only
          rw [hh]
          dsimp only
          rw [if_pos]
          rw [verOkP_congr (L' := L) ?_]
          · exact hv
          · intro k hk
            by_cases e : k = n
            · subst e; rw [upd_same, upd_same, ins_erase hle]
            · rw [upd_other _ e, upd_other _ e]
        · intro k hk
          by_cases e : k = n
          · subst e; rw [upd_same, upd_same, ins_erase hle]
          · rw [upd_other _ e, upd_other _ e]
    · cases ha
/-! ### in memory -/
theorem tabs_len4 (l : Nat → List Mr) : (tabs l 4).length = (l 0).length + (l 1).length + (l 2).length + (l 3).length := by
  rw [tabs_succ_len, tabs_succ_len, tabs_succ_len, tabs_succ_len]
  show 0 + _ + _ + _ + _ = _
  omega
theorem lvE_len {l : Nat → List Mr} {L : Lv} (h : LvE (lvOf l) L) {n : Nat} (hn : n < 4) : (l n).length = (L n).length := by
  rw [← h n hn]; exact (List.length_map _).symm
theorem undo_tabs {l l1 : Nat → List Mr} {L L1 : Lv} {n : Nat} (h : LvE (lvOf l) L) (h1 : LvE (lvOf l1) L1) (hn : n < 4) (hk : ∀ k, k ≠ n → L1 k = L k) (hl : (L1 n).length = (L n).length + 1) : (tabs l1 4).length = (tabs l 4).length + 1 := by
  rw [tabs_len4, tabs_len4, lvE_len h (n := 0) (by omega), lvE_len h (n := 1) (by omega), lvE_len h (n := 2) (by omega), lvE_len h (n := 3) (by omega), lvE_len h1 (n := 0) (by omega), lvE_len h1 (n := 1) (by omega), lvE_len h1 (n := 2) (by omega), lvE_len h1 (n := 3) (by omega)]
  have q : ∀ k, (L1 k).length = (L k).length + if k = n then 1 else 0 := by
    intro k
    by_cases e : k = n
    · subst e; rw [hl, if_pos rfl]
    · rw [hk k e, if_neg e]; rfl
  rw [q 0, q 1, q 2, q 3]
  match n, hn with
  | 0, _ => simp; omega
  | 1, _ => simp; omega
  | 2, _ => simp; omega
  | 3, _ => simp; omega
theorem hasT_of {l : Nat → List Mr} {L : Lv} (h : LvE (lvOf l) L) {z : Int} {n i : Nat} (hp : hasP L z = some (n, i)) : hasT (tabs l 4) z = some n := by
  rw [← hasP_congr h z] at hp
  rcases hasF_tabs l z with ⟨q, -⟩ | ⟨n', i', -, q, ht, -⟩
  · rw [hp] at q; cases q
  · rw [hp] at q; cases q; exact ht
end Go.Proofs.YtcmndnglmpkpdaaDoor.Tithe
