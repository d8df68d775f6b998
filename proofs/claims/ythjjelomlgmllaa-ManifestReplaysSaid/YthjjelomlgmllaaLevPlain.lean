/- Versions, plain: what Apply leads to, on lists of metas. -/
import Derived.Test.YthjjelomlgmllaaLevChk
import Derived.Test.YthjjelomlgmllaaLevFind
namespace Go.Proofs.Ythjjelomlgmllaa.Tithe
open Go.RowKit Go.Sort Go.Shelf
set_option linter.unusedVariables false
/-- the levels of a version, plain -/
abbrev Lv := Nat → List Mt
def lvOf (l : Nat → List Mr) : Lv := fun n => (l n).map (·.1)
def Lv.upd (L : Lv) (n : Nat) (x : List Mt) : Lv := fun i => if i = n then x else L i
def rowsOf (L : Lv) : Nat → List Mr := fun n => (L n).map fun m => (m, .slice none 0 0)
theorem lvOf_rowsOf (L : Lv) (n : Nat) : lvOf (rowsOf L) n = L n := by
  unfold lvOf rowsOf; rw [List.map_map]; simp [Function.comp_def]
/-- the first table of a zone: its level, its place -/
def hasF (L : Lv) (z : Int) : Nat → Nat → Option (Nat × Nat)
  | 0, _ => none
  | f + 1, n => match (L n).findIdx? (fun m => decide (m.z = z)) with
    | some i => some (n, i)
    | none => hasF L z f (n + 1)
def hasP (L : Lv) (z : Int) : Option (Nat × Nat) := hasF L z 4 0
def dropAt (n i : Nat) (at0 : Int) : Int := if n = 0 ∧ at0 < 0 then (i : Int) else if n = 0 ∧ (i : Int) < at0 then at0 - 1 else at0
def dropP (st : Lv × Int) (z : Int) : Option (Lv × Int) := match hasP st.1 z with
  | none => none
  | some p => some (st.1.upd p.1 ((st.1 p.1).eraseIdx p.2), dropAt p.1 p.2 st.2)
def dropsP (st : Lv × Int) (zs : List Int) : Nat → Option (Lv × Int)
  | 0 => some st
  | k + 1 => match dropsP st zs k with
    | none => none
    | some s => dropP s (zs.getD k 0)
def insP (l : List Mt) (k : Ky) : Nat := match l.findIdx? (fun m => decide (0 ≤ cmpK m.a k)) with | some i => i | none => l.length
def addAt (L : Lv) (at0 : Int) (p : Int × Mt) : Nat := if 0 < p.1 then insP (L p.1.toNat) p.2.a else (max at0 0).toNat
def addP (L : Lv) (at0 : Int) (p : Int × Mt) : Option Lv :=
  if p.1 < 0 ∨ 4 ≤ p.1 then none else some (L.upd p.1.toNat ((L p.1.toNat).take (addAt L at0 p) ++ p.2 :: (L p.1.toNat).drop (addAt L at0 p)))
def addsP (L : Lv) (at0 : Int) (ps : List (Int × Mt)) : Nat → Option Lv
  | 0 => some L
  | k + 1 => match addsP L at0 ps k with
    | none => none
    | some L' => addP L' at0 (ps.getD k (0, Mt.nil))
def verOkP (L : Lv) : Bool := verOk (rowsOf L)
def applyP (L : Lv) (zs : List Int) (ps : List (Int × Mt)) : Option Lv := match dropsP (L, -1) zs zs.length with
  | none => none
  | some st => match addsP st.1 st.2 ps ps.length with
    | none => none
    | some L' => if verOkP L' = true then some L' else none
/-! ### rows and metas -/
def ptab (l : Nat → List Mr) (n : Nat) : List (Nat × Mt) := (tabs l n).map fun p => (p.1, p.2.1)
theorem ptab_succ (l : Nat → List Mr) (n : Nat) : ptab l (n + 1) = ptab l n ++ (lvOf l n).map fun m => (n, m) := by
  unfold ptab lvOf
  show (tabs l n ++ _).map _ = _
  rw [List.map_append, List.map_map, List.map_map]; rfl
theorem ptab_congr {l l' : Nat → List Mr} : ∀ (n : Nat), (∀ m, m < n → lvOf l m = lvOf l' m) → ptab l n = ptab l' n
  | 0, _ => rfl
  | n + 1, h => by rw [ptab_succ, ptab_succ, ptab_congr n (fun m hm => h m (by omega)), h n (by omega)]
theorem getD_ptab (l : Nat → List Mr) (n k : Nat) : (((tabs l n).getD k (0, Mr.nil)).2.1) = ((ptab l n).getD k (0, Mt.nil)).2 := by
  unfold ptab
  rw [List.getD_eq_getElem?_getD, List.getD_eq_getElem?_getD, List.getElem?_map]
  cases (tabs l n)[k]? <;> rfl
theorem seenZ_congr {l l' : Nat → List Mr} (h : ptab l 4 = ptab l' 4) : ∀ k z, seenZ (tabs l 4) k z = seenZ (tabs l' 4) k z
  | 0, _ => rfl
  | k + 1, z => by
    show (if z = ((tabs l 4).getD k (0, Mr.nil)).2.1.z.toNat then true else seenZ (tabs l 4) k z) = (if z = ((tabs l' 4).getD k (0, Mr.nil)).2.1.z.toNat then true else seenZ (tabs l' 4) k z)
    rw [getD_ptab, getD_ptab, h, seenZ_congr h k z]
theorem tabsOk_congr {l l' : Nat → List Mr} (h : ptab l 4 = ptab l' 4) : ∀ k, tabsOk (tabs l 4) k = tabsOk (tabs l' 4) k
  | 0 => rfl
  | k + 1 => by
    show (tabsOk (tabs l 4) k && tabOk (tabs l 4) k) = (tabsOk (tabs l' 4) k && tabOk (tabs l' 4) k)
    rw [tabsOk_congr h k]
    unfold tabOk
    rw [getD_ptab, getD_ptab, h, seenZ_congr h]
theorem getD_map (l : List Mr) (k : Nat) : (l.getD k Mr.nil).1 = (l.map (·.1)).getD k Mt.nil := by
  rw [List.getD_eq_getElem?_getD, List.getD_eq_getElem?_getD, List.getElem?_map]
  cases l[k]? <;> rfl
theorem sepOk_congr {l l' : List Mr} (h : l.map (·.1) = l'.map (·.1)) : ∀ k, sepOk l k = sepOk l' k
  | 0 => rfl
  | k + 1 => by
    show (sepOk l k && sepAt l k) = (sepOk l' k && sepAt l' k)
    rw [sepOk_congr h k]
    unfold sepAt
    rw [getD_map, getD_map, getD_map, getD_map, h]
theorem verOk_congr {l l' : Nat → List Mr} (h : ∀ n, n < 4 → lvOf l n = lvOf l' n) : verOk l = verOk l' := by
  have hp : ptab l 4 = ptab l' 4 := ptab_congr 4 h
  have hl : (tabs l 4).length = (tabs l' 4).length := by
    have := congrArg List.length hp
    unfold ptab at this
    rwa [List.length_map, List.length_map] at this
  have hn : ∀ n, n < 4 → (l n).length = (l' n).length := fun n hn => by
    have := congrArg List.length (h n hn)
    unfold lvOf at this
    rwa [List.length_map, List.length_map] at this
  unfold verOk
  rw [tabsOk_congr hp, hl, sepOk_congr (h 1 (by omega)), sepOk_congr (h 2 (by omega)), sepOk_congr (h 3 (by omega)), hn 1 (by omega), hn 2 (by omega), hn 3 (by omega)]
theorem verOk_lv (l : Nat → List Mr) : verOk l = verOkP (lvOf l) := verOk_congr fun n _ => (lvOf_rowsOf (lvOf l) n).symm
theorem verOkP_congr {L L' : Lv} (h : ∀ n, n < 4 → L n = L' n) : verOkP L = verOkP L' := verOk_congr fun n hn => by rw [lvOf_rowsOf, lvOf_rowsOf, h n hn]
theorem findIdx_map (l : List Mr) (p : Mt → Bool) : (l.map (·.1)).findIdx? p = l.findIdx? fun r => p r.1 := by
  rw [List.findIdx?_map]; rfl
/-- Has over rows, as over metas -/
theorem hasT_append (a b : List (Nat × Mr)) (z : Int) : hasT (a ++ b) z = match hasT a z with | some n => some n | none => hasT b z := by
  unfold hasT
  rw [List.find?_append]
  cases a.find? (fun p => decide (p.2.1.z = z)) <;> rfl
theorem hasT_level (l : List Mr) (n : Nat) (z : Int) : hasT (l.map fun r => (n, r)) z = match l.findIdx? (zAt z) with | some _ => some n | none => none := by
  unfold hasT
  rw [List.find?_map]
  cases h : l.findIdx? (zAt z) with
  | none =>
    have h2 := List.findIdx?_eq_none_iff.1 h
    rw [List.find?_eq_none.2 (fun x hx => by have := h2 x hx; unfold zAt at this; simpa using this)]; rfl
  | some i =>
    obtain ⟨h1, h2, -⟩ := List.findIdx?_eq_some_iff_getElem.1 h
    cases hf : l.find? ((fun p : Nat × Mr => decide (p.2.1.z = z)) ∘ fun r => (n, r)) with
    | none =>
      have := List.find?_eq_none.1 hf _ (List.getElem_mem h1)
      unfold zAt at h2
      simp at h2 this
      exact absurd h2 this
    | some x => rfl
theorem hasT_zero (z : Int) : hasT [] z = none := rfl
theorem hasF_tabs (l : Nat → List Mr) (z : Int) : (hasP (lvOf l) z = none ∧ hasT (tabs l 4) z = none) ∨ ∃ n i, n < 4 ∧ hasP (lvOf l) z = some (n, i) ∧ hasT (tabs l 4) z = some n ∧ (l n).findIdx? (zAt z) = some i := by
  have e : ∀ n, (lvOf l n).findIdx? (fun m => decide (m.z = z)) = (l n).findIdx? (zAt z) := fun n => findIdx_map _ _
  have ht : tabs l 4 = (((([] ++ (l 0).map fun r => (0, r)) ++ (l 1).map fun r => (1, r)) ++ (l 2).map fun r => (2, r)) ++ (l 3).map fun r => (3, r)) := rfl
  rw [ht, hasT_append, hasT_append, hasT_append, hasT_append, hasT_level, hasT_level, hasT_level, hasT_level, hasT_zero]
  unfold hasP
  simp only [hasF, e]
  cases h0 : (l 0).findIdx? (zAt z) with
  | some i => exact .inr ⟨0, i, by omega, rfl, rfl, h0⟩
  | none =>
    cases h1 : (l 1).findIdx? (zAt z) with
    | some i => exact .inr ⟨1, i, by omega, rfl, rfl, h1⟩
    | none =>
      cases h2 : (l 2).findIdx? (zAt z) with
      | some i => exact .inr ⟨2, i, by omega, rfl, rfl, h2⟩
      | none =>
        cases h3 : (l 3).findIdx? (zAt z) with
        | some i => exact .inr ⟨3, i, by omega, rfl, rfl, h3⟩
        | none => exact .inl ⟨rfl, rfl⟩
theorem hasP_congr {L L' : Lv} (h : ∀ n, n < 4 → L n = L' n) (z : Int) : hasP L z = hasP L' z := by
  unfold hasP
  simp only [hasF, h 0 (by omega), h 1 (by omega), h 2 (by omega), h 3 (by omega), Nat.zero_add, Nat.reduceAdd]
theorem insP_rows (l : List Mr) (k : Ky) : insP (l.map (·.1)) k = insN l k := by
  unfold insP insN
  rw [findIdx_map, List.length_map]
  rfl
theorem map_erase {α β : Type} (f : α → β) : ∀ (l : List α) (i : Nat), (l.eraseIdx i).map f = (l.map f).eraseIdx i
  | [], _ => rfl
  | _ :: _, 0 => rfl
  | x :: l, i + 1 => by
    show f x :: (l.eraseIdx i).map f = f x :: (l.map f).eraseIdx i
    rw [map_erase f l i]
end Go.Proofs.Ythjjelomlgmllaa.Tithe
