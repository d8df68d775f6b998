/- Right versions said otherwise; how many tables there are (printed by mkmanverp.py). -/
import Derived.Test.YthjjelomlgmllaaLevAppP
import Derived.Test.YthjjelomlgmllaaManRecP
namespace Go.Proofs.Ythjjelomlgmllaa.Tithe
open Go.RowKit Go.Sort Go.Shelf
set_option linter.unusedVariables false
set_option linter.unusedSimpArgs false
theorem tabsOk_lt {ts : List (Nat × Mr)} : ∀ {n k : Nat}, tabsOk ts n = true → k < n → tabOk ts k = true
  | n + 1, k, h, hk => by
    have h' : (tabsOk ts n && tabOk ts n) = true := h
    rw [Bool.and_eq_true] at h'
    by_cases e : k = n
    · subst e; exact h'.2
    · exact tabsOk_lt h'.1 (by omega)
theorem seenZ_iff (ts : List (Nat × Mr)) (z : Nat) : ∀ g, seenZ ts g z = true ↔ ∃ j, j < g ∧ z = (ts.getD j (0, Mr.nil)).2.1.z.toNat
  | 0 => by simp [seenZ]
  | g + 1 => by
    unfold seenZ
    split
    · rename_i h
      exact ⟨fun _ => ⟨g, Nat.lt_succ_self _, h⟩, fun _ => rfl⟩
    · rename_i h
      rw [seenZ_iff ts z g]
      constructor
      · rintro ⟨j, hj, e⟩; exact ⟨j, by omega, e⟩
      · rintro ⟨j, hj, e⟩
        by_cases q : j = g
        · subst q; exact absurd e h
        · exact ⟨j, by omega, e⟩
theorem tabs_len4 (l : Nat → List Mr) : (tabs l 4).length = (l 0).length + (l 1).length + (l 2).length + (l 3).length := by
  rw [tabs_succ_len, tabs_succ_len, tabs_succ_len, tabs_succ_len]
  show 0 + _ + _ + _ + _ = _
  omega
theorem cmpK_user {a b : Ky} (h : cmpK a b ≤ 0) : cmpB a.u b.u ≤ 0 := by
  by_cases e : cmpK a b < 0
  · exact cmpK_le a b e
  · rw [cmpK_zero (show cmpK a b = 0 by omega), cmpB_self]; omega
theorem verOk_apart {l : Nat → List Mr} (h : verOk l = true) {n : Nat} (h1 : 1 ≤ n) (hn : n < 4) : (l n).Pairwise fun x y => cmpB x.1.b.u y.1.a.u < 0 := by
  rw [List.pairwise_iff_getElem]
  intro i j hi hj hij
  have hs := verOk_sep h h1 hn
  have h2 := sepOk_at hs (show i + 1 < (l n).length by omega)
  unfold sepAt at h2
  rw [List.getD_eq_getElem?_getD, List.getD_eq_getElem?_getD, show i + 1 - 1 = i by omega, List.getElem?_eq_getElem hi, List.getElem?_eq_getElem (show i + 1 < (l n).length by omega)] at h2
  have h4 : cmpB (l n)[i].1.b.u (l n)[i + 1].1.a.u < 0 := by simpa using h2
  by_cases e : i + 1 = j
  · subst e; exact h4
  · have h5 := verOk_sort h h1 hn (i + 1) j _ _ (by omega) (List.getElem?_eq_getElem (by omega)) (List.getElem?_eq_getElem hj)
    exact cmpB_lt_trans h4 (cmpK_user h5)
def cz (z : Int) (l : List Mt) : Nat := l.countP fun m => decide (m.z = z)
def cL (z : Int) (L : Lv) : Nat := cz z (L 0) + cz z (L 1) + cz z (L 2) + cz z (L 3)
structure Ver (L : Lv) : Prop where
  ok : ∀ n, n < 4 → ∀ m ∈ L n, mOk m = true
  one : ∀ z, cL z L ≤ 1
  ap : ∀ n, 1 ≤ n → n < 4 → (L n).Pairwise fun x y => cmpB x.b.u y.a.u < 0
theorem pw_count {α : Type} (f : α → Int) (z : Int) : ∀ {l : List α}, l.Pairwise (fun x y => f x ≠ f y) → l.countP (fun x => decide (f x = z)) ≤ 1
  | [], _ => Nat.zero_le _
  | a :: l, h => by
    have h' := List.pairwise_cons.1 h
    rw [List.countP_cons]
    by_cases e : f a = z
    · have : l.countP (fun x => decide (f x = z)) = 0 := List.countP_eq_zero.2 (fun b hb => by
        have := h'.1 b hb
        rw [e] at this
        simpa using fun q => this q.symm)
      rw [this]; split <;> omega
    · have := pw_count f z h'.2
      rw [if_neg (by simpa using e)]; omega
theorem count_pw {α : Type} (f : α → Int) : ∀ {l : List α}, (∀ z, l.countP (fun x => decide (f x = z)) ≤ 1) → l.Pairwise (fun x y => f x ≠ f y)
  | [], _ => List.Pairwise.nil
  | a :: l, h => by
    refine List.pairwise_cons.2 ⟨fun b hb e => ?_, count_pw f (fun z => ?_)⟩
    · have := h (f a)
      rw [List.countP_cons, if_pos (by simp)] at this
      have h0 : l.countP (fun x => decide (f x = f a)) = 0 := by omega
      exact absurd (decide_eq_true e.symm) (List.countP_eq_zero.1 h0 b hb)
    · have := h z
      rw [List.countP_cons] at this
      omega
theorem tabs_count (l : Nat → List Mr) (z : Int) : (tabs l 4).countP (fun p => decide (p.2.1.z = z)) = cL z (lvOf l) := by
  have ht : tabs l 4 = (((([] ++ (l 0).map fun r => (0, r)) ++ (l 1).map fun r => (1, r)) ++ (l 2).map fun r => (2, r)) ++ (l 3).map fun r => (3, r)) := rfl
  have e : ∀ (n : Nat) (l : List Mr), (l.map fun r => (n, r)).countP (fun p => decide (p.2.1.z = z)) = cz z (l.map (·.1)) := fun n l => by
    unfold cz
    rw [List.countP_map, List.countP_map]; rfl
  rw [ht, List.countP_append, List.countP_append, List.countP_append, List.countP_append, e, e, e, e]
  show 0 + _ + _ + _ + _ = _
  unfold cL lvOf
  omega
theorem tabsOk_pw {ts : List (Nat × Mr)} (h : tabsOk ts ts.length = true) : ts.Pairwise (fun x y => x.2.1.z ≠ y.2.1.z) := by
  rw [List.pairwise_iff_getElem]
  intro i j hi hj hij e
  have ht := tabsOk_lt h hj
  unfold tabOk at ht
  rw [Bool.and_eq_true] at ht
  have hq' : ts.getD j (0, Mr.nil) = ts[j] := by rw [List.getD_eq_getElem?_getD, List.getElem?_eq_getElem hj]; rfl
  have hp' : ts.getD i (0, Mr.nil) = ts[i] := by rw [List.getD_eq_getElem?_getD, List.getElem?_eq_getElem hi]; rfl
  have : seenZ ts j (ts.getD j (0, Mr.nil)).2.1.z.toNat = true := (seenZ_iff _ _ j).2 ⟨i, hij, by rw [hp', hq', e]⟩
  rw [this] at ht
  exact absurd ht.2 (by decide)
theorem tabsOk_of {ts : List (Nat × Mr)} : ∀ {n : Nat}, (∀ k, k < n → tabOk ts k = true) → tabsOk ts n = true
  | 0, _ => rfl
  | n + 1, h => by
    show (tabsOk ts n && tabOk ts n) = true
    rw [tabsOk_of (fun k hk => h k (by omega)), h n (by omega)]; rfl
theorem sepOk_of {l : List Mr} : ∀ {n : Nat}, (∀ k, k < n → sepAt l k = true) → sepOk l n = true
  | 0, _ => rfl
  | n + 1, h => by
    show (sepOk l n && sepAt l n) = true
    rw [sepOk_of (fun k hk => h k (by omega)), h n (by omega)]; rfl
theorem ver_of {L : Lv} (h : verOkP L = true) : Ver L := by
  have hv : verOk (rowsOf L) = true := h
  have hl : ∀ n, lvOf (rowsOf L) n = L n := lvOf_rowsOf L
  refine ⟨fun n hn m hm => ?_, fun z => ?_, fun n h1 hn => ?_⟩
  · exact verOk_m hv hn (r := (m, .slice none 0 0)) (List.mem_map.2 ⟨m, hm, rfl⟩)
  · have h2 := hv
    unfold verOk at h2
    rw [Bool.and_eq_true] at h2
    have := pw_count (fun p : Nat × Mr => p.2.1.z) z (tabsOk_pw h2.1)
    rw [tabs_count] at this
    unfold cL at this ⊢
    rwa [hl, hl, hl, hl] at this
  · have := verOk_apart hv h1 hn
    unfold rowsOf at this
    rw [List.pairwise_map] at this
    exact this
theorem ver_to {L : Lv} (h : Ver L) : verOkP L = true := by
  have hl : ∀ n, lvOf (rowsOf L) n = L n := lvOf_rowsOf L
  have hm : ∀ p ∈ tabs (rowsOf L) 4, mOk p.2.1 = true := fun p hp => by
    obtain ⟨h1, h2⟩ := tabs_mem hp
    obtain ⟨m, hm, e⟩ := List.mem_map.1 h2
    rw [← e]; exact h.ok _ h1 m hm
  have hpw : (tabs (rowsOf L) 4).Pairwise (fun x y => x.2.1.z ≠ y.2.1.z) := count_pw (fun p : Nat × Mr => p.2.1.z) (fun z => by
    rw [tabs_count]
    unfold cL
    rw [hl, hl, hl, hl]
    exact h.one z)
  have hsep : ∀ n, 1 ≤ n → n < 4 → sepOk (rowsOf L n) (rowsOf L n).length = true := fun n h1 hn => sepOk_of fun k hk => by
    unfold sepAt
    by_cases e : k = 0
    · rw [decide_eq_true e]; rfl
    · have hlen : (rowsOf L n).length = (L n).length := by unfold rowsOf; rw [List.length_map]
      have g : ∀ j (hj : j < (L n).length), (rowsOf L n).getD j Mr.nil = ((L n)[j], .slice none 0 0) := fun j hj => by
        unfold rowsOf
        rw [List.getD_eq_getElem?_getD, List.getElem?_map, List.getElem?_eq_getElem hj]; rfl
      rw [g (k - 1) (by omega), g k (by omega), decide_eq_true (List.pairwise_iff_getElem.1 (h.ap n h1 hn) (k - 1) k (by omega) (by omega) (by omega)), Bool.or_true]
  show verOk (rowsOf L) = true
  unfold verOk
  rw [hsep 1 (by omega) (by omega), hsep 2 (by omega) (by omega), hsep 3 (by omega) (by omega)]
  have : tabsOk (tabs (rowsOf L) 4) (tabs (rowsOf L) 4).length = true := tabsOk_of fun k hk => by
    unfold tabOk
    have g : ∀ j (hj : j < (tabs (rowsOf L) 4).length), (tabs (rowsOf L) 4).getD j (0, Mr.nil) = (tabs (rowsOf L) 4)[j] := fun j hj => by
      rw [List.getD_eq_getElem?_getD, List.getElem?_eq_getElem hj]; rfl
    rw [g k hk, hm _ (List.getElem_mem hk)]
    cases hs : seenZ (tabs (rowsOf L) 4) k ((tabs (rowsOf L) 4)[k]).2.1.z.toNat with
    | false => rfl
    | true =>
      obtain ⟨j, hj, e⟩ := (seenZ_iff _ _ k).1 hs
      rw [g j (by omega)] at e
      have z1 := mOk_zone (hm _ (List.getElem_mem hk))
      have z2 := mOk_zone (hm _ (List.getElem_mem (show j < _ by omega)))
      exact absurd (show _ = _ by omega) (List.pairwise_iff_getElem.1 hpw j k (by omega) hk hj)
  rw [this]; rfl
/-! ### how many tables there are -/
theorem few_of : ∀ (N : Nat) (l : List Nat), l.Pairwise (· ≠ ·) → (∀ x ∈ l, x < N) → l.length ≤ N
  | 0, l, _, h => by
    match l, h with
    | [], _ => exact Nat.le_refl _
    | x :: t, h => exact absurd (h x (by simp)) (Nat.not_lt_zero _)
  | N + 1, l, hp, h => by
    have h1 := few_of N (l.filter fun x => decide (x ≠ N)) (hp.sublist List.filter_sublist) (fun x hx => by
      have := List.mem_filter.1 hx
      have h2 := h x this.1
      have h3 : x ≠ N := by simpa using this.2
      omega)
    have h2 : l.countP (fun x : Nat => decide ((x : Int) = (N : Int))) ≤ 1 := pw_count (fun x : Nat => (x : Int)) N (hp.imp (fun q e => q (by omega)))
    have h3 := List.length_eq_countP_add_countP (fun x => decide (x ≠ N)) (l := l)
    rw [List.countP_eq_length_filter] at h3
    have h4 : l.countP (fun a => decide ¬decide (a ≠ N) = true) = l.countP (fun x : Nat => decide ((x : Int) = (N : Int))) := List.countP_congr (fun x _ => by simp; omega)
    omega
def cnt (L : Lv) : Nat := (L 0).length + (L 1).length + (L 2).length + (L 3).length
theorem cnt_tabs (l : Nat → List Mr) : (tabs l 4).length = cnt (lvOf l) := by
  rw [tabs_len4]; unfold cnt lvOf
  rw [List.length_map, List.length_map, List.length_map, List.length_map]
theorem cnt_le {L : Lv} (h : Ver L) : cnt L ≤ 64 := by
  have hl : ∀ n, lvOf (rowsOf L) n = L n := lvOf_rowsOf L
  have e : cnt L = (tabs (rowsOf L) 4).length := by
    rw [cnt_tabs]; unfold cnt; rw [hl, hl, hl, hl]
  have hpw : (tabs (rowsOf L) 4).Pairwise (fun x y => x.2.1.z ≠ y.2.1.z) := count_pw (fun p : Nat × Mr => p.2.1.z) (fun z => by
    rw [tabs_count]; unfold cL; rw [hl, hl, hl, hl]; exact h.one z)
  have hz : ∀ p ∈ tabs (rowsOf L) 4, 0 ≤ p.2.1.z ∧ p.2.1.z < 64 := fun p hp => by
    obtain ⟨h1, h2⟩ := tabs_mem hp
    obtain ⟨m, hm, e⟩ := List.mem_map.1 h2
    rw [← e]; exact mOk_zone (h.ok _ h1 m hm)
  have := few_of 64 ((tabs (rowsOf L) 4).map fun p => p.2.1.z.toNat) (by
    rw [List.pairwise_map]
    exact List.Pairwise.imp_of_mem (fun ha hb q e => q (by have := hz _ ha; have := hz _ hb; omega)) hpw) (fun x hx => by
    obtain ⟨p, hp, rfl⟩ := List.mem_map.1 hx
    have := hz p hp; omega)
  rw [List.length_map] at this
  omega
/-! ### levels that agree -/
def LvE (L L' : Lv) : Prop := ∀ n, n < 4 → L n = L' n
def OLvE : Option Lv → Option Lv → Prop
  | none, none => True
  | some L, some L' => LvE L L'
  | _, _ => False
def OLvE2 : Option (Lv × Int) → Option (Lv × Int) → Prop
  | none, none => True
  | some s, some s' => LvE s.1 s'.1 ∧ s.2 = s'.2
  | _, _ => False
theorem LvE.refl (L : Lv) : LvE L L := fun _ _ => rfl
theorem LvE.symm {L L' : Lv} (h : LvE L L') : LvE L' L := fun n hn => (h n hn).symm
theorem LvE.trans {L L' L'' : Lv} (h : LvE L L') (h' : LvE L' L'') : LvE L L'' := fun n hn => (h n hn).trans (h' n hn)
theorem hasP_lt {L : Lv} {z : Int} {n i : Nat} (h : hasP L z = some (n, i)) : n < 4 := by
  unfold hasP at h
  simp only [hasF] at h
  split at h
  · cases h; omega
  · split at h
    · cases h; omega
    · split at h
      · cases h; omega
      · split at h
        · cases h; omega
        · cases h
theorem dropP_congr {L L' : Lv} {a : Int} (h : LvE L L') (z : Int) : OLvE2 (dropP (L, a) z) (dropP (L', a) z) := by
  unfold dropP
  dsimp only
  rw [hasP_congr h z]
  cases hp : hasP L' z with
  | none => trivial
  | some p =>
    obtain ⟨n, i⟩ := p
    refine ⟨?_, rfl⟩
    dsimp only
    rw [h n (hasP_lt hp)]
    exact fun m hm => Lv.upd_congr h n _ m hm
theorem dropsP_congr {L L' : Lv} {a : Int} (h : LvE L L') (zs : List Int) : ∀ k, OLvE2 (dropsP (L, a) zs k) (dropsP (L', a) zs k)
  | 0 => ⟨h, rfl⟩
  | k + 1 => by
    have ih := dropsP_congr (a := a) h zs k
    unfold dropsP
    cases h1 : dropsP (L, a) zs k with
    | none =>
      cases h2 : dropsP (L', a) zs k with
      | none => trivial
      | some s => rw [h1, h2] at ih; exact ih.elim
    | some s =>
      cases h2 : dropsP (L', a) zs k with
      | none => rw [h1, h2] at ih; exact ih.elim
      | some s' =>
        rw [h1, h2] at ih
        obtain ⟨s1, s2⟩ := s
        obtain ⟨t1, t2⟩ := s'
        obtain ⟨e1, e2⟩ := ih
        dsimp only at e1 e2
        subst e2
        exact dropP_congr e1 _
theorem addP_congr {L L' : Lv} {a : Int} (h : LvE L L') (p : Int × Mt) : OLvE (addP L a p) (addP L' a p) := by
  unfold addP
  by_cases hp : p.1 < 0 ∨ 4 ≤ p.1
  · rw [if_pos hp, if_pos hp]; trivial
  · rw [if_neg hp, if_neg hp]
    have hn : p.1.toNat < 4 := by omega
    have ha : addAt L a p = addAt L' a p := by unfold addAt; rw [h _ hn]
    rw [ha, h _ hn]
    exact fun m hm => Lv.upd_congr h _ _ m hm
theorem addsP_congr {L L' : Lv} {a : Int} (h : LvE L L') (ps : List (Int × Mt)) : ∀ k, OLvE (addsP L a ps k) (addsP L' a ps k)
  | 0 => h
  | k + 1 => by
    have ih := addsP_congr (a := a) h ps k
    unfold addsP
    cases h1 : addsP L a ps k with
    | none =>
      cases h2 : addsP L' a ps k with
      | none => trivial
      | some s => rw [h1, h2] at ih; exact ih.elim
    | some s =>
      cases h2 : addsP L' a ps k with
      | none => rw [h1, h2] at ih; exact ih.elim
      | some s' => rw [h1, h2] at ih; exact addP_congr ih _
theorem applyP_congr {L L' : Lv} (h : LvE L L') (zs : List Int) (ps : List (Int × Mt)) : OLvE (applyP L zs ps) (applyP L' zs ps) := by
  have hd := dropsP_congr (a := -1) h zs zs.length
  unfold applyP
  cases h1 : dropsP (L, -1) zs zs.length with
  | none =>
    cases h2 : dropsP (L', -1) zs zs.length with
    | none => trivial
    | some s => rw [h1, h2] at hd; exact hd.elim
  | some s =>
    cases h2 : dropsP (L', -1) zs zs.length with
    | none => rw [h1, h2] at hd; exact hd.elim
    | some s' =>
      rw [h1, h2] at hd
      obtain ⟨s1, s2⟩ := s
      obtain ⟨t1, t2⟩ := s'
      obtain ⟨e1, e2⟩ := hd
      dsimp only at e1 e2
      subst e2
      have ha := addsP_congr (a := s2) e1 ps ps.length
      dsimp only
      cases h3 : addsP s1 s2 ps ps.length with
      | none =>
        cases h4 : addsP t1 s2 ps ps.length with
        | none => trivial
        | some A => rw [h3, h4] at ha; exact ha.elim
      | some A =>
        cases h4 : addsP t1 s2 ps ps.length with
        | none => rw [h3, h4] at ha; exact ha.elim
        | some B =>
          rw [h3, h4] at ha
          dsimp only
          rw [verOkP_congr ha]
          cases verOkP B
          · trivial
          · exact ha
theorem applyP_none {L L' : Lv} (h : LvE L L') {zs : List Int} {ps : List (Int × Mt)} (hn : applyP L' zs ps = none) : applyP L zs ps = none := by
  have := applyP_congr h zs ps
  rw [hn] at this
  cases h1 : applyP L zs ps with
  | none => rfl
  | some A => rw [h1] at this; exact this.elim
theorem applyP_some {L L' A : Lv} (h : LvE L L') {zs : List Int} {ps : List (Int × Mt)} (hn : applyP L' zs ps = some A) : ∃ B, applyP L zs ps = some B ∧ LvE B A := by
  have := applyP_congr h zs ps
  rw [hn] at this
  cases h1 : applyP L zs ps with
  | none => rw [h1] at this; exact this.elim
  | some B => rw [h1] at this; exact ⟨B, rfl, this⟩
theorem apply_ok {L L' : Lv} {zs : List Int} {ps : List (Int × Mt)} (h : applyP L zs ps = some L') : verOkP L' = true := by
  unfold applyP at h
  split at h
  · cases h
  · split at h
    · cases h
    · split at h
      · rename_i q
        injection h with h
        rw [← h]; exact q
      · cases h
/-- what Apply wants of a version -/
theorem ver_small {l : Nat → List Mr} (h : verOk l = true) : (tabs l 4).length ≤ 64 ∧ ∀ p ∈ tabs l 4, p.2.1.refs.length ≤ 64 := by
  have hv := ver_of (L := lvOf l) (by rw [← verOk_lv]; exact h)
  refine ⟨by rw [cnt_tabs]; exact cnt_le hv, fun p hp => ?_⟩
  obtain ⟨h1, h2⟩ := tabs_mem hp
  have h3 := verOk_m h h1 h2
  unfold mOk metaOk at h3
  rw [Bool.and_eq_true] at h3
  exact refs_few h3.2
end Go.Proofs.Ythjjelomlgmllaa.Tithe
