/- A table that goes down, plain: the edit is taken, and it comes to an end. -/
import Derived.Test.YtcmndnglmpkpdaaDoorPickFitsP
namespace Go.Proofs.YtcmndnglmpkpdaaDoor.Tithe
open Go.RowKit Go.Sort Go.Shelf
set_option linter.unusedVariables false
set_option linter.unusedSimpArgs false
/-! ### right versions, said otherwise -/
def covM (s g : ByteArray) (m : Mt) : Bool := decide (cmpB s g ≤ 0) && (decide (cmpB m.a.u g ≤ 0) && decide (cmpB s m.b.u ≤ 0))
theorem covM_iff {s g : ByteArray} {m : Mt} : covM s g m = true ↔ cmpB s g ≤ 0 ∧ cmpB m.a.u g ≤ 0 ∧ cmpB s m.b.u ≤ 0 := by
  unfold covM; simp only [Bool.and_eq_true, decide_eq_true_eq]
theorem over_lv (l : Nat → List Mr) {n : Nat} (hn : n < 4) (s g : ByteArray) : ((tabs l 4).filter (overB (n : Int) s g)).map (·.2.1) = (lvOf l n).filter (covM s g) := by
  rw [over_level l hn, List.map_map]
  unfold lvOf
  rw [List.filter_map]
  rfl
def cz (z : Int) (l : List Mt) : Nat := l.countP fun m => decide (m.z = z)
def cL (z : Int) (L : Lv) : Nat := cz z (L 0) + cz z (L 1) + cz z (L 2) + cz z (L 3)
structure Ver (L : Lv) : Prop where
  ok : ∀ n, n < 4 → ∀ m ∈ L n, mOk m = true
  one : ∀ z, cL z L ≤ 1
  ap : ∀ n, 1 ≤ n → n < 4 → (L n).Pairwise fun x y => cmpB x.b.u y.a.u < 0
theorem pw_count {α : Type} (f : α → Int) (z : Int) : ∀ {l : List α}, l.Pairwise (fun x y => f x ≠ f y) → l.countP (fun x => decide (f x = z)) ≤ 1
  | [], _ => Nat.zero_le _
  | a :: l, h => by
    have h' := List.pairwise_cons.1 h
    rw [List.countP_cons]
    by_cases e : f a = z
    · have : l.countP (fun x => decide (f x = z)) = 0 := List.countP_eq_zero.2 (fun b hb => by
        have := h'.1 b hb
        rw [e] at this
        simpa using fun q => this q.symm)
      rw [this]; split <;> omega
    · have := pw_count f z h'.2
      rw [if_neg (by simpa using e)]; omega
theorem count_pw {α : Type} (f : α → Int) : ∀ {l : List α}, (∀ z, l.countP (fun x => decide (f x = z)) ≤ 1) → l.Pairwise (fun x y => f x ≠ f y)
  | [], _ => List.Pairwise.nil
  | a :: l, h => by
    refine List.pairwise_cons.2 ⟨fun b hb e => ?_, count_pw f (fun z => ?_)⟩
    · have := h (f a)
      rw [List.countP_cons, if_pos (by simp)] at this
      have h0 : l.countP (fun x => decide (f x = f a)) = 0 := by omega
      exact absurd (decide_eq_true e.symm) (List.countP_eq_zero.1 h0 b hb)
    · have := h z
      rw [List.countP_cons] at this
      omega
theorem tabs_count (l : Nat → List Mr) (z : Int) : (tabs l 4).countP (fun p => decide (p.2.1.z = z)) = cL z (lvOf l) := by
  have ht : tabs l 4 = (((([] ++ (l 0).map fun r => (0, r)) ++ (l 1).map fun r => (1, r)) ++ (l 2).map fun r => (2, r)) ++ (l 3).map fun r => (3, r)) := rfl
  have e : ∀ (n : Nat) (l : List Mr), (l.map fun r => (n, r)).countP (fun p => decide (p.2.1.z = z)) = cz z (l.map (·.1)) := fun n l => by
    unfold cz
    rw [List.countP_map, List.countP_map]; rfl
  rw [ht, List.countP_append, List.countP_append, List.countP_append, List.countP_append, e, e, e, e]
  show 0 + _ + _ + _ + _ = _
  unfold cL lvOf
  omega
theorem tabsOk_pw {ts : List (Nat × Mr)} (h : tabsOk ts ts.length = true) : ts.Pairwise (fun x y => x.2.1.z ≠ y.2.1.z) := by
  rw [List.pairwise_iff_getElem]
  intro i j hi hj hij e
  have ht := tabsOk_lt h hj
  unfold tabOk at ht
  rw [Bool.and_eq_true] at ht
  have hq' : ts.getD j (0, Mr.nil) = ts[j] := by rw [List.getD_eq_getElem?_getD, List.getElem?_eq_getElem hj]; rfl
  have hp' : ts.getD i (0, Mr.nil) = ts[i] := by rw [List.getD_eq_getElem?_getD, List.getElem?_eq_getElem hi]; rfl
  have : seenZ ts j (ts.getD j (0, Mr.nil)).2.1.z.toNat = true := (seenZ_iff _ _ j).2 ⟨i, hij, by rw [hp', hq', e]⟩
  rw [this] at ht
  exact absurd ht.2 (by decide)
theorem tabsOk_of {ts : List (Nat × Mr)} : ∀ {n : Nat}, (∀ k, k < n → tabOk ts k = true) → tabsOk ts n = true
  | 0, _ => rfl
  | n + 1, h => by
    show (tabsOk ts n && tabOk ts n) = true
    rw [tabsOk_of (fun k hk => h k (by omega)), h n (by omega)]; rfl
theorem sepOk_of {l : List Mr} : ∀ {n : Nat}, (∀ k, k < n → sepAt l k = true) → sepOk l n = true
  | 0, _ => rfl
  | n + 1, h => by
    show (sepOk l n && sepAt l n) = true
    rw [sepOk_of (fun k hk => h k (by omega)), h n (by omega)]; rfl
theorem ver_of {L : Lv} (h : verOkP L = true) : Ver L := by
  have hv : verOk (rowsOf L) = true := h
  have hl : ∀ n, lvOf (rowsOf L) n = L n := lvOf_rowsOf L
  refine ⟨fun n hn m hm => ?_, fun z => ?_, fun n h1 hn => ?_⟩
  · exact verOk_m hv hn (r := (m, .slice none 0 0)) (List.mem_map.2 ⟨m, hm, rfl⟩)
  · have h2 := hv
    unfold verOk at h2
    rw [Bool.and_eq_true] at h2
    have := pw_count (fun p : Nat × Mr => p.2.1.z) z (tabsOk_pw h2.1)
    rw [tabs_count] at this
    unfold cL at this ⊢
    rwa [hl, hl, hl, hl] at this
  · have := verOk_apart hv h1 hn
    unfold rowsOf at this
    rw [List.pairwise_map] at this
    exact this
theorem ver_to {L : Lv} (h : Ver L) : verOkP L = true := by
  have hl : ∀ n, lvOf (rowsOf L) n = L n := lvOf_rowsOf L
  have hm : ∀ p ∈ tabs (rowsOf L) 4, mOk p.2.1 = true := fun p hp => by
    obtain ⟨h1, h2⟩ := tabs_mem hp
    obtain ⟨m, hm, e⟩ := List.mem_map.1 h2
    rw [← e]; exact h.ok _ h1 m hm
  have hpw : (tabs (rowsOf L) 4).Pairwise (fun x y => x.2.1.z ≠ y.2.1.z) := count_pw (fun p : Nat × Mr => p.2.1.z) (fun z => by
    rw [tabs_count]
    unfold cL
    rw [hl, hl, hl, hl]
    exact h.one z)
  have hsep : ∀ n, 1 ≤ n → n < 4 → sepOk (rowsOf L n) (rowsOf L n).length = true := fun n h1 hn => sepOk_of fun k hk => by
    unfold sepAt
    by_cases e : k = 0
    · rw [decide_eq_true e]; rfl
    · have hlen : (rowsOf L n).length = (L n).length := by unfold rowsOf; rw [List.length_map]
      have g : ∀ j (hj : j < (L n).length), (rowsOf L n).getD j Mr.nil = ((L n)[j], .slice none 0 0) := fun j hj => by
        unfold rowsOf
        rw [List.getD_eq_getElem?_getD, List.getElem?_map, List.getElem?_eq_getElem hj]; rfl
      rw [g (k - 1) (by omega), g k (by omega), decide_eq_true (List.pairwise_iff_getElem.1 (h.ap n h1 hn) (k - 1) k (by omega) (by omega) (by omega)), Bool.or_true]
  show verOk (rowsOf L) = true
  unfold verOk
  rw [hsep 1 (by omega) (by omega), hsep 2 (by omega) (by omega), hsep 3 (by omega) (by omega)]
  have : tabsOk (tabs (rowsOf L) 4) (tabs (rowsOf L) 4).length = true := tabsOk_of fun k hk => by
    unfold tabOk
    have g : ∀ j (hj : j < (tabs (rowsOf L) 4).length), (tabs (rowsOf L) 4).getD j (0, Mr.nil) = (tabs (rowsOf L) 4)[j] := fun j hj => by
      rw [List.getD_eq_getElem?_getD, List.getElem?_eq_getElem hj]; rfl
    rw [g k hk, hm _ (List.getElem_mem hk)]
    cases hs : seenZ (tabs (rowsOf L) 4) k ((tabs (rowsOf L) 4)[k]).2.1.z.toNat with
    | false => rfl
    | true =>
      obtain ⟨j, hj, e⟩ := (seenZ_iff _ _ k).1 hs
      rw [g j (by omega)] at e
      have z1 := mOk_zone (hm _ (List.getElem_mem hk))
      have z2 := mOk_zone (hm _ (List.getElem_mem (show j < _ by omega)))
      exact absurd (show _ = _ by omega) (List.pairwise_iff_getElem.1 hpw j k (by omega) hk hj)
  rw [this]; rfl
/-! ### how many tables there are -/
theorem few_of : ∀ (N : Nat) (l : List Nat), l.Pairwise (· ≠ ·) → (∀ x ∈ l, x < N) → l.length ≤ N
  | 0, l, _, h => by
    match l, h with
    | [], _ => exact Nat.le_refl _
    | x :: t, h => exact absurd (h x (by simp)) (Nat.not_lt_zero _)
  | N + 1, l, hp, h => by
    have h1 := few_of N (l.filter fun x => decide (x ≠ N)) (hp.sublist List.filter_sublist) (fun x hx => by
      have := List.mem_filter.1 hx
      have h2 := h x this.1
      have h3 : x ≠ N := by simpa using this.2
      omega)
    have h2 : l.countP (fun x : Nat => decide ((x : Int) = (N : Int))) ≤ 1 := pw_count (fun x : Nat => (x : Int)) N (hp.imp (fun q e => q (by omega)))
    have h3 := List.length_eq_countP_add_countP (fun x => decide (x ≠ N)) (l := l)
    rw [List.countP_eq_length_filter] at h3
    have h4 : l.countP (fun a => decide ¬decide (a ≠ N) = true) = l.countP (fun x : Nat => decide ((x : Int) = (N : Int))) := List.countP_congr (fun x _ => by simp; omega)
    omega
def cnt (L : Lv) : Nat := (L 0).length + (L 1).length + (L 2).length + (L 3).length
theorem cnt_tabs (l : Nat → List Mr) : (tabs l 4).length = cnt (lvOf l) := by
  rw [tabs_len4]; unfold cnt lvOf
  rw [List.length_map, List.length_map, List.length_map, List.length_map]
theorem cnt_le {L : Lv} (h : Ver L) : cnt L ≤ 64 := by
  have hl : ∀ n, lvOf (rowsOf L) n = L n := lvOf_rowsOf L
  have e : cnt L = (tabs (rowsOf L) 4).length := by
    rw [cnt_tabs]; unfold cnt; rw [hl, hl, hl, hl]
  have hpw : (tabs (rowsOf L) 4).Pairwise (fun x y => x.2.1.z ≠ y.2.1.z) := count_pw (fun p : Nat × Mr => p.2.1.z) (fun z => by
    rw [tabs_count]; unfold cL; rw [hl, hl, hl, hl]; exact h.one z)
  have hz : ∀ p ∈ tabs (rowsOf L) 4, 0 ≤ p.2.1.z ∧ p.2.1.z < 64 := fun p hp => by
    obtain ⟨h1, h2⟩ := tabs_mem hp
    obtain ⟨m, hm, e⟩ := List.mem_map.1 h2
    rw [← e]; exact mOk_zone (h.ok _ h1 m hm)
  have := few_of 64 ((tabs (rowsOf L) 4).map fun p => p.2.1.z.toNat) (by
    rw [List.pairwise_map]
    exact List.Pairwise.imp_of_mem (fun ha hb q e => q (by have := hz _ ha; have := hz _ hb; omega)) hpw) (fun x hx => by
    obtain ⟨p, hp, rfl⟩ := List.mem_map.1 hx
    have := hz p hp; omega)
  rw [List.length_map] at this
  omega
/-! ### dropping -/
theorem cz_mem {z : Int} {l : List Mt} {m : Mt} (h : m ∈ l) (hz : m.z = z) : 1 ≤ cz z l := by
  unfold cz
  exact List.countP_pos_iff.2 ⟨m, h, decide_eq_true hz⟩
theorem cz_le {z : Int} {L : Lv} {n : Nat} (hn : n < 4) : cz z (L n) ≤ cL z L := by
  unfold cL
  match n, hn with
  | 0, _ => omega
  | 1, _ => omega
  | 2, _ => omega
  | 3, _ => omega
theorem cz_two {z : Int} {L : Lv} {n n' : Nat} (hn : n < 4) (hn' : n' < 4) (hne : n ≠ n') : cz z (L n) + cz z (L n') ≤ cL z L := by
  unfold cL
  match n, n', hn, hn' with
  | 0, 0, _, _ => omega
  | 0, 1, _, _ => omega
  | 0, 2, _, _ => omega
  | 0, 3, _, _ => omega
  | 1, 0, _, _ => omega
  | 1, 1, _, _ => omega
  | 1, 2, _, _ => omega
  | 1, 3, _, _ => omega
  | 2, 0, _, _ => omega
  | 2, 1, _, _ => omega
  | 2, 2, _, _ => omega
  | 2, 3, _, _ => omega
  | 3, 0, _, _ => omega
  | 3, 1, _, _ => omega
  | 3, 2, _, _ => omega
  | 3, 3, _, _ => omega
theorem erase_filter (z : Int) : ∀ (l : List Mt) (i : Nat), cz z l ≤ 1 → l.findIdx? (fun m => decide (m.z = z)) = some i → l.eraseIdx i = l.filter fun m => decide (m.z ≠ z)
  | [], i, _, h => by cases h
  | x :: l, i, hc, h => by
    unfold cz at hc
    rw [List.countP_cons] at hc
    rw [List.findIdx?_cons] at h
    by_cases e : x.z = z
    · rw [if_pos (by simpa using e)] at h
      injection h with h
      subst h
      rw [if_pos (by simpa using e)] at hc
      have h0 : l.countP (fun m => decide (m.z = z)) = 0 := by omega
      rw [List.filter_cons_of_neg (by simpa using e)]
      exact (List.filter_eq_self.2 (fun m hm => by simpa using List.countP_eq_zero.1 h0 m hm)).symm
    · rw [if_neg (by simpa using e)] at h
      obtain ⟨j, hj, rfl⟩ := Option.map_eq_some_iff.1 h
      rw [List.filter_cons_of_pos (by simpa using e)]
      show x :: l.eraseIdx j = _
      rw [erase_filter z l j (by unfold cz; omega) hj]
theorem filter_none {z : Int} {l : List Mt} (h : cz z l = 0) : (l.filter fun m => decide (m.z ≠ z)) = l := List.filter_eq_self.2 (fun m hm => by simpa using List.countP_eq_zero.1 h m hm)
theorem drop1 {L : Lv} (h1 : ∀ z, cL z L ≤ 1) {n : Nat} {x : Mt} (hn : n < 4) (hx : x ∈ L n) (at0 : Int) :
    ∃ st, dropP (L, at0) x.z = some st ∧ ∀ j, j < 4 → st.1 j = (L j).filter fun m => decide (m.z ≠ x.z) := by
  have hr : ∀ k, lvOf (rowsOf L) k = L k := lvOf_rowsOf L
  have hcx := cz_mem hx rfl
  unfold dropP
  rcases hasF_tabs (rowsOf L) x.z with ⟨-, q⟩ | ⟨k, i, hk, hp, -, hf⟩
  · exfalso
    unfold hasT at q
    rw [Option.map_eq_none_iff, List.find?_eq_none] at q
    exact q (n, (x, .slice none 0 0)) (mem_tabs _ hn (List.mem_map.2 ⟨x, hx, rfl⟩)) (by simp)
  · rw [hasP_congr (fun k _ => hr k) x.z] at hp
    have hf' : (L k).findIdx? (fun m => decide (m.z = x.z)) = some i := by
      rw [← hr k]; unfold lvOf; rw [findIdx_map]; exact hf
    show ∃ st, (match hasP L x.z with | none => none | some p => some (L.upd p.1 ((L p.1).eraseIdx p.2), dropAt p.1 p.2 at0)) = some st ∧ _
    rw [hp]
    refine ⟨_, rfl, fun j hj => ?_⟩
    show L.upd k ((L k).eraseIdx i) j = _
    by_cases e : j = k
    · subst e
      rw [upd_same]
      exact erase_filter _ _ _ (Nat.le_trans (cz_le hj) (h1 _)) hf'
    · rw [upd_other _ e, filter_none]
      have hk1 : 1 ≤ cz x.z (L k) := by
        obtain ⟨hlt, hz, -⟩ := List.findIdx?_eq_some_iff_getElem.1 hf'
        exact cz_mem (List.getElem_mem hlt) (by simpa using hz)
      have := cz_two (z := x.z) (L := L) hj hk e
      have := h1 x.z
      omega
theorem cL_filter (z : Int) (p : Mt → Bool) {L L' : Lv} (h : ∀ j, j < 4 → L' j = (L j).filter p) : cL z L' ≤ cL z L := by
  have q : ∀ j, j < 4 → cz z (L' j) ≤ cz z (L j) := fun j hj => by
    rw [h j hj]; unfold cz
    exact List.filter_sublist.countP_le
  unfold cL
  have := q 0 (by omega); have := q 1 (by omega); have := q 2 (by omega); have := q 3 (by omega)
  omega
theorem drops_all {L : Lv} (h1 : ∀ z, cL z L ≤ 1) (zs : List Int) (hn : zs.Pairwise (· ≠ ·)) (hz : ∀ z ∈ zs, ∃ n x, n < 4 ∧ x ∈ L n ∧ x.z = z) :
    ∀ k, k ≤ zs.length → ∃ st, dropsP (L, -1) zs k = some st ∧ ∀ j, j < 4 → st.1 j = (L j).filter fun m => decide (m.z ∉ zs.take k)
  | 0, _ => ⟨_, rfl, fun j hj => (List.filter_eq_self.2 (fun m hm => by simp)).symm⟩
  | k + 1, hk => by
    obtain ⟨st, hst, hf⟩ := drops_all h1 zs hn hz k (by omega)
    obtain ⟨z, hzk⟩ : ∃ z, zs[k]? = some z := ⟨_, List.getElem?_eq_getElem (by omega)⟩
    obtain ⟨n, x, hn4, hx, rfl⟩ := hz z (List.mem_of_getElem? hzk)
    have hnk : x.z ∉ zs.take k := by
      intro q
      obtain ⟨i, hi, e⟩ := List.mem_iff_getElem.1 q
      rw [List.length_take] at hi
      rw [List.getElem_take] at e
      have h2 := (List.getElem?_eq_some_iff.1 hzk).2
      exact List.pairwise_iff_getElem.1 hn i k (by omega) (by omega) (by omega) (by rw [e, h2])
    have hxs : x ∈ st.1 n := by rw [hf n hn4]; exact List.mem_filter.2 ⟨hx, by simpa using hnk⟩
    obtain ⟨st', hst', hf'⟩ := drop1 (fun z => Nat.le_trans (cL_filter z _ hf) (h1 z)) hn4 hxs st.2
    refine ⟨st', ?_, fun j hj => ?_⟩
    · rw [dropsP_step hst hzk]; exact hst'
    · rw [hf' j hj, hf j hj, List.filter_filter]
      refine List.filter_congr fun m _ => ?_
      rw [List.take_add_one, hzk]
      rw [Bool.eq_iff_iff]
      simp only [Option.toList_some, List.mem_append, List.mem_singleton, Bool.and_eq_true, decide_eq_true_eq, not_or]
      constructor
      · rintro ⟨q1, q2⟩; exact ⟨q2, q1⟩
      · rintro ⟨q1, q2⟩; exact ⟨q2, q1⟩
/-! ### one table goes down -/
def dnStep (m t : Mt) : Mt := ⟨m.z, m.n, if cmpK t.a m.a < 0 then t.a else m.a, if 0 < cmpK t.b m.b then t.b else m.b, m.refs⟩
def dnM (q : Mt) (R : List Mt) : Nat → Mt
  | 0 => q
  | k + 1 => dnStep (dnM q R k) (R.getD k Mt.nil)
structure DnI (q : Mt) (R : List Mt) (k : Nat) (m : Mt) : Prop where
  z : m.z = q.z
  n : m.n = q.n
  refs : m.refs = q.refs
  a0 : cmpK m.a q.a ≤ 0
  b0 : cmpK q.b m.b ≤ 0
  at_ : ∀ i t, i < k → R[i]? = some t → cmpK m.a t.a ≤ 0 ∧ cmpK t.b m.b ≤ 0
  ca : m.a = q.a ∨ ∃ t ∈ R, m.a = t.a
  cb : m.b = q.b ∨ ∃ t ∈ R, m.b = t.b
theorem dn_all (q : Mt) (R : List Mt) : ∀ k, k ≤ R.length → DnI q R k (dnM q R k)
  | 0, _ => ⟨rfl, rfl, rfl, by rw [show dnM q R 0 = q from rfl, cmpK_self]; omega, by rw [show dnM q R 0 = q from rfl, cmpK_self]; omega, fun i t hi => absurd hi (Nat.not_lt_zero _), .inl rfl, .inl rfl⟩
  | k + 1, hk => by
    have h := dn_all q R k (by omega)
    obtain ⟨t, ht⟩ : ∃ t, R[k]? = some t := ⟨_, List.getElem?_eq_getElem (by omega)⟩
    have htR := List.mem_of_getElem? ht
    show DnI q R (k + 1) (dnStep (dnM q R k) (R.getD k Mt.nil))
    rw [List.getD_eq_getElem?_getD, ht, Option.getD_some]
    generalize dnM q R k = m at h
    have ha : cmpK (dnStep m t).a m.a ≤ 0 ∧ cmpK (dnStep m t).a t.a ≤ 0 := by
      show cmpK (if _ then _ else _) _ ≤ 0 ∧ cmpK (if _ then _ else _) _ ≤ 0
      by_cases e : cmpK t.a m.a < 0
      · rw [if_pos e, cmpK_self]; omega
      · rw [if_neg e, cmpK_self, cmpK_swap]; omega
    have hb : cmpK m.b (dnStep m t).b ≤ 0 ∧ cmpK t.b (dnStep m t).b ≤ 0 := by
      show cmpK _ (if _ then _ else _) ≤ 0 ∧ cmpK _ (if _ then _ else _) ≤ 0
      by_cases e : 0 < cmpK t.b m.b
      · rw [if_pos e, cmpK_self, cmpK_swap]; omega
      · rw [if_neg e, cmpK_self]; omega
    refine ⟨h.z, h.n, h.refs, cmpK_le_le ha.1 h.a0, cmpK_le_le h.b0 hb.1, fun i u hi hu => ?_, ?_, ?_⟩
    · by_cases e : i = k
      · subst e
        rw [ht] at hu
        injection hu with hu
        subst hu
        exact ⟨ha.2, hb.2⟩
      · have := h.at_ i u (by omega) hu
        exact ⟨cmpK_le_le ha.1 this.1, cmpK_le_le this.2 hb.1⟩
    · show (if cmpK t.a m.a < 0 then t.a else m.a) = _ ∨ ∃ u ∈ R, (if cmpK t.a m.a < 0 then t.a else m.a) = u.a
      by_cases e : cmpK t.a m.a < 0
      · rw [if_pos e]; exact .inr ⟨t, htR, rfl⟩
      · rw [if_neg e]; exact h.ca
    · show (if 0 < cmpK t.b m.b then t.b else m.b) = _ ∨ ∃ u ∈ R, (if 0 < cmpK t.b m.b then t.b else m.b) = u.b
      by_cases e : 0 < cmpK t.b m.b
      · rw [if_pos e]; exact .inr ⟨t, htR, rfl⟩
      · rw [if_neg e]; exact h.cb
theorem mOk_parts {m : Mt} (h : mOk m = true) : okK m.a = true ∧ okK m.b = true ∧ cmpK m.a m.b ≤ 0 := by
  unfold mOk metaOk headOk at h
  simp only [Bool.and_eq_true, decide_eq_true_eq] at h
  exact ⟨h.1.1.1.2, h.1.1.2, h.1.2⟩
theorem mOk_new {q m : Mt} (h : mOk q = true) (hz : m.z = q.z) (hn : m.n = q.n) (hr : m.refs = q.refs) (ha : okK m.a = true) (hb : okK m.b = true) (hab : cmpK m.a m.b ≤ 0) : mOk m = true := by
  unfold mOk metaOk headOk at h ⊢
  rw [hz, hn, hr]
  simp only [Bool.and_eq_true, decide_eq_true_eq] at h ⊢
  exact ⟨⟨⟨⟨h.1.1.1.1, ha⟩, hb⟩, hab⟩, h.2⟩
abbrev dnR (L : Lv) (n : Nat) (q : Mt) : List Mt := (L (n + 1)).filter (covM q.a.u q.b.u)
/-- what overlaps the new range is what overlaps the old one -/
theorem dn_same {L : Lv} (hv : Ver L) {n : Nat} (hn : n < 3) {q m : Mt} (hq : mOk q = true) (hm : DnI q (dnR L n q) (dnR L n q).length m) : (L (n + 1)).filter (covM m.a.u m.b.u) = dnR L n q := by
  have hqab := cmpK_user (mOk_parts hq).2.2
  have hma := cmpK_user hm.a0
  have hmb := cmpK_user hm.b0
  refine List.filter_congr fun x hx => ?_
  have hxab := cmpK_user (mOk_parts (hv.ok _ (by omega) x hx)).2.2
  have htri : ∀ t ∈ L (n + 1), x = t ∨ cmpB x.b.u t.a.u < 0 ∨ cmpB t.b.u x.a.u < 0 := fun t ht => by
    obtain ⟨i, hi, rfl⟩ := List.mem_iff_getElem.1 hx
    obtain ⟨j, hj, rfl⟩ := List.mem_iff_getElem.1 ht
    have hpp := List.pairwise_iff_getElem.1 (hv.ap (n + 1) (by omega) (by omega))
    rcases Nat.lt_trichotomy i j with e | e | e
    · exact .inr (.inl (hpp i j hi hj e))
    · subst e; exact .inl rfl
    · exact .inr (.inr (hpp j i hj hi e))
  rw [Bool.eq_iff_iff, covM_iff, covM_iff]
  constructor
  · rintro ⟨h1, h2, h3⟩
    by_cases hxR : x ∈ dnR L n q
    · exact covM_iff.1 (List.mem_filter.1 hxR).2
    · refine ⟨hqab, ?_, ?_⟩
      · rcases hm.cb with e | ⟨t, ht, e⟩
        · rw [← e]; exact h2
        · rw [e] at h2
          obtain ⟨htL, htc⟩ := List.mem_filter.1 ht
          have htc := covM_iff.1 htc
          rcases htri t htL with rfl | g | g
          · exact absurd ht hxR
          · exact Int.le_of_lt (cmpB_lt_trans (cmpB_trans_lt hxab g) htc.2.1)
          · have := cmpB_swap x.a.u t.b.u; omega
      · rcases hm.ca with e | ⟨t, ht, e⟩
        · rw [← e]; exact h3
        · rw [e] at h3
          obtain ⟨htL, htc⟩ := List.mem_filter.1 ht
          have htc := covM_iff.1 htc
          rcases htri t htL with rfl | g | g
          · exact absurd ht hxR
          · have := cmpB_swap x.b.u t.a.u; omega
          · exact Int.le_of_lt (cmpB_lt_trans (cmpB_trans_lt htc.2.2 g) hxab)
  · rintro ⟨h1, h2, h3⟩
    exact ⟨cmpB_trans' hma (cmpB_trans' hqab hmb), cmpB_trans' h2 hmb, cmpB_trans' hma h3⟩
/-- how far the tables are from the last level -/
def mu (L : Lv) : Nat := 3 * (L 0).length + 2 * (L 1).length + (L 2).length
theorem mu_le {L : Lv} (h : Ver L) : mu L ≤ 192 := by
  have := cnt_le h
  unfold cnt at this
  unfold mu
  omega
def RefB (L : Lv) : Prop := ∀ n, n < 4 → ∀ m ∈ L n, m.refs.length ≤ 1000000
theorem ins_pw {S : List Mt} {m : Mt} (hs : S.Pairwise fun x y => cmpB x.b.u y.a.u < 0) (hab : ∀ x ∈ S, cmpK x.a x.b ≤ 0) (hmab : cmpK m.a m.b ≤ 0) (hout : ∀ x ∈ S, covM m.a.u m.b.u x = false) :
    (S.take (insP S m.a) ++ m :: S.drop (insP S m.a)).Pairwise fun x y => cmpB x.b.u y.a.u < 0 := by
  have hsort : sortS (S.map fun x => ((x, .slice none 0 0) : Mr)) := (sortS_iff _).2 (by
    rw [List.pairwise_map]
    exact List.Pairwise.imp_of_mem (fun {x y} hx hy q => Int.le_of_lt (cmpK_le_lt (hab x hx) ((cmpK_lt _ _).2 (.inl q)))) hs)
  have hSm : (S.map fun x => ((x, .slice none 0 0) : Mr)).map (·.1) = S := by rw [List.map_map]; simp [Function.comp_def]
  have hi : insP S m.a = insN (S.map fun x => ((x, .slice none 0 0) : Mr)) m.a := by
    rw [← insP_rows, hSm]
  have hg : ∀ t x, S[t]? = some x → (S.map fun x => ((x, .slice none 0 0) : Mr))[t]? = some ((x, .slice none 0 0) : Mr) := fun t x h => by rw [List.getElem?_map, h]; rfl
  rw [hi]
  have hlo := fun t x (ht : t < _) (h : S[t]? = some x) => insN_lo (l := S.map fun x => ((x, .slice none 0 0) : Mr)) (k := m.a) ht (hg t x h)
  have hhi := fun t x (ht : _ ≤ t) (h : S[t]? = some x) => insN_hi (l := S.map fun x => ((x, .slice none 0 0) : Mr)) (k := m.a) hsort ht (hg t x h)
  generalize insN (S.map fun x => ((x, .slice none 0 0) : Mr)) m.a = i at hlo hhi
  have hmu := cmpK_user hmab
  have hcase : ∀ x ∈ S, cmpB x.b.u m.a.u < 0 ∨ cmpB m.b.u x.a.u < 0 := fun x hx => by
    have h := hout x hx
    have h2 : ¬ (cmpB m.a.u m.b.u ≤ 0 ∧ cmpB x.a.u m.b.u ≤ 0 ∧ cmpB m.a.u x.b.u ≤ 0) := fun q => by rw [covM_iff.2 q] at h; cases h
    have := cmpB_swap x.a.u m.b.u
    have := cmpB_swap m.a.u x.b.u
    omega
  refine List.pairwise_append.2 ⟨hs.sublist (List.take_sublist _ _), List.pairwise_cons.2 ⟨fun y hy => ?_, hs.sublist (List.drop_sublist _ _)⟩, fun x hx y hy => ?_⟩
  · obtain ⟨j, hj, rfl⟩ := List.mem_iff_getElem.1 hy
    rw [List.length_drop] at hj
    rw [List.getElem_drop]
    have h1 := hhi (i + j) _ (by show i ≤ i + j; omega) (List.getElem?_eq_getElem (by omega))
    dsimp only at h1
    have hyS : S[i + j]'(by omega) ∈ S := List.getElem_mem _
    rcases hcase _ hyS with q | q
    · have h2 := cmpB_lt_trans (cmpB_trans_lt (cmpB_trans' (cmpK_user h1) (cmpK_user (hab _ hyS))) q) (Int.le_refl _ |> fun _ => show cmpB m.a.u m.a.u ≤ 0 by rw [cmpB_self]; omega)
      rw [cmpB_self] at h2
      omega
    · exact q
  · obtain ⟨j, hj, rfl⟩ := List.mem_iff_getElem.1 hx
    rw [List.length_take] at hj
    rw [List.getElem_take]
    have hxS : S[j]'(by omega) ∈ S := List.getElem_mem _
    have h1 := hlo j _ (by show j < i; omega) (List.getElem?_eq_getElem (by omega))
    dsimp only at h1
    have hxm : cmpB (S[j]'(by omega)).b.u m.a.u < 0 := by
      rcases hcase _ hxS with q | q
      · exact q
      · have h2 := cmpB_lt_trans (cmpB_trans_lt hmu q) (cmpK_user h1)
        rw [cmpB_self] at h2
        omega
    rcases List.mem_cons.1 hy with rfl | hy
    · exact hxm
    · obtain ⟨k, hk, rfl⟩ := List.mem_iff_getElem.1 hy
      rw [List.length_drop] at hk
      rw [List.getElem_drop]
      exact List.pairwise_iff_getElem.1 hs j (i + k) (by omega) (by omega) (by omega)
/-- the edit is taken -/
theorem dn_apply {L : Lv} (hv : Ver L) (hr : RefB L) {n : Nat} (hn : n < 3) {q m : Mt} (hq : q ∈ L n) (hm : DnI q (dnR L n q) (dnR L n q).length m) :
    ∃ L1, applyP L (q.z :: (dnR L n q).map (·.z)) [((n : Int) + 1, m)] = some L1 ∧ Ver L1 ∧ RefB L1 ∧ mu L1 < mu L := by
  have hqok := hv.ok n (by omega) q hq
  obtain ⟨zs, hzs⟩ : ∃ zs, zs = q.z :: (dnR L n q).map (·.z) := ⟨_, rfl⟩
  have hRs : (dnR L n q).Sublist (L (n + 1)) := List.filter_sublist
  have hRz : ∀ x ∈ dnR L n q, x ∈ L (n + 1) := fun x hx => (List.mem_filter.1 hx).1
  have hpw : (L (n + 1)).Pairwise (fun x y => x.z ≠ y.z) := count_pw (fun m : Mt => m.z) (fun z => Nat.le_trans (cz_le (z := z) (L := L) (n := n + 1) (by omega)) (hv.one z))
  have hnd : zs.Pairwise (· ≠ ·) := by
    rw [hzs]
    refine List.pairwise_cons.2 ⟨fun z hz e => ?_, ?_⟩
    · obtain ⟨x, hx, rfl⟩ := List.mem_map.1 hz
      have h1 := cz_mem hq rfl
      have h2 := cz_mem (hRz x hx) (z := q.z) e.symm
      have h3 := cz_two (z := q.z) (L := L) (n := n) (n' := n + 1) (by omega) (by omega) (by omega)
      have := hv.one q.z
      omega
    · rw [List.pairwise_map]; exact hpw.sublist hRs
  have hin : ∀ z ∈ zs, ∃ k x, k < 4 ∧ x ∈ L k ∧ x.z = z := fun z hz => by
    rw [hzs] at hz
    rcases List.mem_cons.1 hz with rfl | hz
    · exact ⟨n, q, by omega, hq, rfl⟩
    · obtain ⟨x, hx, rfl⟩ := List.mem_map.1 hz
      exact ⟨n + 1, x, by omega, hRz x hx, rfl⟩
  obtain ⟨st, hst, hf⟩ := drops_all hv.one zs hnd hin zs.length (Nat.le_refl _)
  rw [List.take_length] at hf
  have hsub : ∀ j, j < 4 → (st.1 j).Sublist (L j) := fun j hj => by rw [hf j hj]; exact List.filter_sublist
  have hmem : ∀ j, j < 4 → ∀ x ∈ st.1 j, x ∈ L j ∧ x.z ∉ zs := fun j hj x hx => by
    rw [hf j hj] at hx
    have := List.mem_filter.1 hx
    exact ⟨this.1, by simpa using this.2⟩
  have hlen : ∀ j, j < 4 → (st.1 j).length ≤ (L j).length := fun j hj => (hsub j hj).length_le
  have hlq : (st.1 n).length < (L n).length := by
    refine Nat.lt_of_le_of_ne (hlen n (by omega)) (fun e => ?_)
    have := (hsub n (by omega)).eq_of_length e
    rw [← this] at hq
    exact (hmem n (by omega) q hq).2 (by rw [hzs]; exact List.mem_cons_self)
  obtain ⟨S, hS⟩ : ∃ S, S = st.1 (n + 1) := ⟨_, rfl⟩
  obtain ⟨T, hT⟩ : ∃ T, T = S.take (insP S m.a) ++ m :: S.drop (insP S m.a) := ⟨_, rfl⟩
  have hTm : ∀ x ∈ T, x = m ∨ x ∈ S := fun x hx => by
    rw [hT] at hx
    rcases List.mem_append.1 hx with hx | hx
    · exact .inr (List.mem_of_mem_take hx)
    · rcases List.mem_cons.1 hx with rfl | hx
      · exact .inl rfl
      · exact .inr (List.mem_of_mem_drop hx)
  have hTl : T.length = S.length + 1 := by
    rw [hT, List.length_append, List.length_cons, List.length_take, List.length_drop]
    have := insP_le S m.a
    omega
  have hTc : ∀ z, cz z T = cz z S + if m.z = z then 1 else 0 := fun z => by
    rw [hT]
    unfold cz
    rw [List.countP_append, List.countP_cons]
    have : S.countP (fun m => decide (m.z = z)) = (S.take (insP S m.a)).countP (fun m => decide (m.z = z)) + (S.drop (insP S m.a)).countP (fun m => decide (m.z = z)) := by
      rw [← List.countP_append, List.take_append_drop]
    rw [this]
    by_cases e : m.z = z
    · rw [if_pos (by simpa using e), if_pos e]; omega
    · rw [if_neg (by simpa using e), if_neg e]; omega
  have hmok : mOk m = true := by
    have hk := mOk_parts hqok
    have ha : okK m.a = true := by
      rcases hm.ca with e | ⟨t, ht, e⟩
      · rw [e]; exact hk.1
      · rw [e]; exact (mOk_parts (hv.ok _ (by omega) t (hRz t ht))).1
    have hb : okK m.b = true := by
      rcases hm.cb with e | ⟨t, ht, e⟩
      · rw [e]; exact hk.2.1
      · rw [e]; exact (mOk_parts (hv.ok _ (by omega) t (hRz t ht))).2.1
    exact mOk_new hqok hm.z hm.n hm.refs ha hb (cmpK_le_le hm.a0 (cmpK_le_le hk.2.2 hm.b0))
  have hout : ∀ x ∈ S, covM m.a.u m.b.u x = false := fun x hx => by
    rw [hS] at hx
    obtain ⟨h1, h2⟩ := hmem (n + 1) (by omega) x hx
    cases hc : covM m.a.u m.b.u x with
    | false => rfl
    | true =>
      have : x ∈ dnR L n q := by rw [← dn_same hv hn hqok hm]; exact List.mem_filter.2 ⟨h1, hc⟩
      exact absurd (by rw [hzs]; exact List.mem_cons_of_mem _ (List.mem_map.2 ⟨x, this, rfl⟩)) h2
  have hTap : T.Pairwise fun x y => cmpB x.b.u y.a.u < 0 := by
    rw [hT]
    refine ins_pw ?_ (fun x hx => ?_) (mOk_parts hmok).2.2 hout
    · rw [hS]; exact (hv.ap (n + 1) (by omega) (by omega)).sublist (hsub _ (by omega))
    · rw [hS] at hx
      exact (mOk_parts (hv.ok _ (by omega) x (hmem _ (by omega) x hx).1)).2.2
  obtain ⟨L1, hL1⟩ : ∃ L1 : Lv, L1 = st.1.upd (n + 1) T := ⟨_, rfl⟩
  have e1 : L1 (n + 1) = T := by rw [hL1, upd_same]
  have e2 : ∀ j, j ≠ n + 1 → L1 j = st.1 j := fun j hj => by rw [hL1, upd_other _ hj]
  have hmz : m.z = q.z := hm.z
  have hver : Ver L1 := by
    refine ⟨fun j hj x hx => ?_, fun z => ?_, fun j h1 hj => ?_⟩
    · by_cases e : j = n + 1
      · subst e
        rw [e1] at hx
        rcases hTm x hx with rfl | hx
        · exact hmok
        · rw [hS] at hx; exact hv.ok _ hj x (hmem _ hj x hx).1
      · rw [e2 j e] at hx
        exact hv.ok _ hj x (hmem _ hj x hx).1
    · have hst1 : cL z st.1 ≤ cL z L := cL_filter z _ hf
      have h1 := hv.one z
      have hsum : cL z L1 = cL z st.1 + if m.z = z then 1 else 0 := by
        have q : ∀ j, cz z (L1 j) = cz z (st.1 j) + if j = n + 1 then (if m.z = z then 1 else 0) else 0 := fun j => by
          by_cases e : j = n + 1
          · subst e; rw [e1, hTc, hS, if_pos rfl]
          · rw [e2 j e, if_neg e]; rfl
        unfold cL
        rw [q 0, q 1, q 2, q 3]
        match n, hn with
        | 0, _ => simp; omega
        | 1, _ => simp; omega
        | 2, _ => simp; omega
      rw [hsum]
      by_cases e : m.z = z
      · have h0 : ∀ j, j < 4 → cz z (st.1 j) = 0 := fun j hj => by
          unfold cz
          refine List.countP_eq_zero.2 (fun x hx q => (hmem j hj x hx).2 ?_)
          have q : x.z = z := by simpa using q
          rw [q, ← e, hmz, hzs]; exact List.mem_cons_self
        have : cL z st.1 = 0 := by unfold cL; rw [h0 0 (by omega), h0 1 (by omega), h0 2 (by omega), h0 3 (by omega)]
        rw [this]; split <;> omega
      · rw [if_neg e]; omega
    · by_cases e : j = n + 1
      · subst e; rw [e1]; exact hTap
      · rw [e2 j e]; exact (hv.ap j h1 hj).sublist (hsub j hj)
  refine ⟨L1, ?_, hver, fun j hj x hx => ?_, ?_⟩
  · rw [← hzs]
    unfold applyP
    rw [hst]
    have ha : addsP st.1 st.2 [((n : Int) + 1, m)] 1 = addP st.1 st.2 ((n : Int) + 1, m) := rfl
    show (match addsP st.1 st.2 [((n : Int) + 1, m)] 1 with | none => none | some L' => if verOkP L' = true then some L' else none) = _
    rw [ha]
    have hadd : addP st.1 st.2 ((n : Int) + 1, m) = some L1 := by
      unfold addP addAt
      rw [if_neg (by show ¬ ((n : Int) + 1 < 0 ∨ 4 ≤ (n : Int) + 1); omega)]
      dsimp only
      rw [if_pos (by omega), show ((n : Int) + 1).toNat = n + 1 by omega, ← hS, ← hT, hL1]
    rw [hadd]
    dsimp only
    rw [if_pos (ver_to hver)]
  · by_cases e : j = n + 1
    · subst e
      rw [e1] at hx
      rcases hTm x hx with rfl | hx
      · rw [hm.refs]; exact hr n (by omega) q hq
      · rw [hS] at hx; exact hr _ hj x (hmem _ hj x hx).1
    · rw [e2 j e] at hx
      exact hr _ hj x (hmem _ hj x hx).1
  · have q0 := hlen 0 (by omega); have q1 := hlen 1 (by omega); have q2 := hlen 2 (by omega)
    have l1 : ∀ j, (L1 j).length = (st.1 j).length + if j = n + 1 then 1 else 0 := fun j => by
      by_cases e : j = n + 1
      · subst e; rw [e1, hTl, hS, if_pos rfl]
      · rw [e2 j e, if_neg e]; rfl
    unfold mu
    rw [l1 0, l1 1, l1 2]
    match n, hn, hlq with
    | 0, _, hlq => simp; omega
    | 1, _, hlq => simp; omega
    | 2, _, hlq => simp; omega
/-- how many levels have tables, when none is pressed -/
def wthN (l : Nat → List Mr) : Nat → Nat
  | 0 => 0
  | k + 1 => wthN l k + if 0 < (l k).length then 1 else 0
theorem wth_end {l : Nat → List Mr} (h : pressN l = none) : wthN l 4 ≤ 1 ∧ (l 0).length = 0 := by
  unfold pressN at h
  show 0 + _ + _ + _ + _ ≤ 1 ∧ _
  by_cases h0 : 0 < (l 0).length
  · rw [if_pos h0] at h
    unfold pressAt at h
    have hd : deepN l 0 (3 - 0) = true := by
      show (((deepN l 0 0 || decide (0 < (l 1).length)) || decide (0 < (l 2).length)) || decide (0 < (l 3).length)) = true
      rw [show deepN l 0 0 = true from rfl]; rfl
    rw [if_pos hd] at h
    cases h
  · rw [if_neg h0] at h ⊢
    refine ⟨?_, by omega⟩
    by_cases h1 : 0 < (l 1).length
    · rw [if_pos h1] at h ⊢
      unfold pressAt at h
      split at h
      · cases h
      · rename_i q
        have q : ¬ ((deepN l 1 0 || decide (0 < (l 2).length)) || decide (0 < (l 3).length)) = true := q
        rw [show deepN l 1 0 = false from rfl] at q
        simp only [Bool.false_or, Bool.or_eq_true, decide_eq_true_eq, not_or] at q
        rw [if_neg q.1, if_neg q.2]; omega
    · rw [if_neg h1] at h ⊢
      by_cases h2 : 0 < (l 2).length
      · rw [if_pos h2] at h ⊢
        unfold pressAt at h
        split at h
        · cases h
        · rename_i q
          have q : ¬ (deepN l 2 0 || decide (0 < (l 3).length)) = true := q
          rw [show deepN l 2 0 = false from rfl] at q
          simp only [Bool.false_or, decide_eq_true_eq] at q
          rw [if_neg q]; omega
      · rw [if_neg h2]; split <;> omega
end Go.Proofs.YtcmndnglmpkpdaaDoor.Tithe
