/- What a plan names, plain. -/
import Derived.Test.YtcmndnglmpkpdaaDoorPickPress
import Derived.Test.YtcmndnglmpkpdaaDoorLevUndoP
import Derived.Test.YtcmndnglmpkpdaaDoorLevCoversP
namespace Go.Proofs.YtcmndnglmpkpdaaDoor.Tithe
open Go.RowKit Go.Sort Go.Shelf
set_option linter.unusedVariables false
theorem cmpB_nil (x : ByteArray) : ¬ cmpB x ⟨#[]⟩ < 0 := by
  unfold cmpB
  show ¬ Lib.compareBytes x.data.toList [] < 0
  cases x.data.toList with
  | nil => decide
  | cons a t => show ¬ (1 : Int) < 0; decide
theorem mem_lv {l : Nat → List Mr} {n : Nat} {r : Mr} (hr : r ∈ l n) : ∃ i : Nat, (l n)[i]? = some r ∧ (lvOf l n)[i]? = some r.1 := by
  obtain ⟨i, hi⟩ : ∃ i : Nat, (l n)[i]? = some r := List.getElem?_of_mem hr
  exact ⟨i, hi, show ((l n).map (·.1))[i]? = _ by rw [List.getElem?_map, hi]; rfl⟩
theorem verOk_lvOk {l : Nat → List Mr} (h : verOk l = true) : verOkP (lvOf l) = true := by rw [← verOk_lv, h]
/-- no zone twice -/
theorem ver_one {l : Nat → List Mr} (h : verOk l = true) {n n' : Nat} {r r' : Mr} (hn : n < 4) (hn' : n' < 4) (hr : r ∈ l n) (hr' : r' ∈ l n') (hz : r.1.z = r'.1.z) : n = n' ∧ r = r' := by
  obtain ⟨i, hi, hx⟩ := mem_lv hr
  obtain ⟨i', hi', hx'⟩ := mem_lv hr'
  obtain ⟨rfl, rfl⟩ := verOkP_diff (verOk_lvOk h) hn hn' hx hx' hz
  rw [hi] at hi'
  injection hi' with e
  exact ⟨rfl, e⟩
theorem hasT_in {l : Nat → List Mr} (h : verOk l = true) {n : Nat} {r : Mr} (hn : n < 4) (hr : r ∈ l n) : hasT (tabs l 4) r.1.z = some n := by
  unfold hasT
  cases hf : (tabs l 4).find? fun p => decide (p.2.1.z = r.1.z) with
  | none => exact absurd (decide_eq_true (show r.1.z = r.1.z from rfl)) (List.find?_eq_none.1 hf (n, r) (mem_tabs l hn hr))
  | some q =>
    have h1 := tabs_mem (List.mem_of_find?_eq_some hf)
    have h2 : q.2.1.z = r.1.z := by simpa using List.find?_some hf
    have := (ver_one h h1.1 hn h1.2 hr h2).1
    rw [← this]; rfl
theorem planM_mem {l : Nat → List Mr} {n : Nat} (hlen : 0 < (l n).length) : planM l n ∈ l n := by
  unfold planM
  rw [List.getD_eq_getElem?_getD]
  have hk : (if n = 0 then (l 0).length - 1 else 0) < (l n).length := by
    split
    · rename_i e; subst e; omega
    · exact hlen
  rw [List.getElem?_eq_getElem hk]
  exact List.getElem_mem hk
/-! the part up to a table -/
abbrev apart (L : List Mr) : Prop := L.Pairwise fun x y => cmpB x.1.b.u y.1.a.u < 0
theorem filter_upto {R : List Mr} (hp : apart R) (ho : ∀ r ∈ R, cmpB r.1.a.u r.1.b.u ≤ 0) {k : Nat} {x : Mr} (hx : R[k]? = some x) : R.filter (fun r => decide (cmpB r.1.a.u x.1.b.u ≤ 0)) = R.take (k + 1) := by
  obtain ⟨hk, hxk⟩ := List.getElem?_eq_some_iff.1 hx
  have hpp := List.pairwise_iff_getElem.1 hp
  have hsp : R.filter (fun r => decide (cmpB r.1.a.u x.1.b.u ≤ 0)) = (R.take (k + 1) ++ R.drop (k + 1)).filter (fun r => decide (cmpB r.1.a.u x.1.b.u ≤ 0)) := by rw [List.take_append_drop]
  rw [hsp, List.filter_append, List.filter_eq_self.2, List.filter_eq_nil_iff.2, List.append_nil]
  · intro r hr
    obtain ⟨i, hi, rfl⟩ := List.mem_iff_getElem.1 hr
    rw [List.getElem_drop]
    rw [List.length_drop] at hi
    have h1 := hpp k (k + 1 + i) hk (by omega) (by omega)
    rw [hxk] at h1
    have h2 := cmpB_swap x.1.b.u (R[k + 1 + i]'(by omega)).1.a.u
    intro q
    have := of_decide_eq_true q
    omega
  · intro r hr
    obtain ⟨i, hi, rfl⟩ := List.mem_iff_getElem.1 hr
    rw [List.length_take] at hi
    rw [List.getElem_take]
    have h0 := ho (R[i]'(by omega)) (List.getElem_mem _)
    refine decide_eq_true ?_
    by_cases e : i = k
    · subst e; rw [hxk] at h0 ⊢; exact h0
    · have h1 := hpp i k (by omega) hk (by omega)
      have h2 := ho R[k] (List.getElem_mem _)
      rw [hxk] at h1 h2
      exact Int.le_of_lt (cmpB_lt_trans (cmpB_trans_lt h0 h1) h2)
theorem covR_upto {L : List Mr} (hp : apart L) (ho : ∀ r ∈ L, cmpB r.1.a.u r.1.b.u ≤ 0) {s g : ByteArray} {k : Nat} {x : Mr} (hx : (L.filter (covR s g))[k]? = some x) : L.filter (covR s x.1.b.u) = (L.filter (covR s g)).take (k + 1) := by
  have hxm := List.mem_of_getElem? hx
  obtain ⟨hxL, hxc⟩ := List.mem_filter.1 hxm
  unfold covR at hxc
  simp only [Bool.and_eq_true, decide_eq_true_eq] at hxc
  rw [← filter_upto (hp.sublist List.filter_sublist) (fun r hr => ho r (List.mem_filter.1 hr).1) hx, List.filter_filter]
  refine List.filter_congr fun r hr => ?_
  have hro := ho r hr
  have htot : r = x ∨ cmpB r.1.b.u x.1.a.u < 0 ∨ cmpB x.1.b.u r.1.a.u < 0 := by
    obtain ⟨i, hi, rfl⟩ := List.mem_iff_getElem.1 hr
    obtain ⟨j, hj, rfl⟩ := List.mem_iff_getElem.1 hxL
    have hpp := List.pairwise_iff_getElem.1 hp
    rcases Nat.lt_trichotomy i j with q | q | q
    · exact .inr (.inl (hpp i j hi hj q))
    · subst q; exact .inl rfl
    · exact .inr (.inr (hpp j i hj hi q))
  rw [Bool.eq_iff_iff]
  unfold covR
  simp only [Bool.and_eq_true, decide_eq_true_eq]
  constructor
  · rintro ⟨h1, h2, h3⟩
    refine ⟨h2, hxc.1, ?_, h3⟩
    rcases htot with rfl | q | q
    · exact hxc.2.1
    · exact Int.le_of_lt (cmpB_lt_trans (cmpB_trans_lt hro q) hxc.2.1)
    · have := cmpB_swap x.1.b.u r.1.a.u; omega
  · rintro ⟨h2, -, -, h3⟩
    exact ⟨hxc.2.2, h2, h3⟩
theorem planO_level (l : Nat → List Mr) {n : Nat} (hn : n < 3) : planO l n = ((l (n + 1)).filter (covR (planM l n).1.a.u (planM l n).1.b.u)).map (·.1) := by
  unfold planO
  have := over_level l (show n + 1 < 4 by omega) (planM l n).1.a.u (planM l n).1.b.u
  rw [show ((n + 1 : Nat) : Int) = (n : Int) + 1 by omega] at this
  rw [this, List.map_map]
  rfl
/-- what overlaps the part up to Upto is what the plan names -/
theorem upto_over {l : Nat → List Mr} (h : verOk l = true) {n : Nat} (hn : n < 3) :
    ((tabs l 4).filter (overB ((n : Int) + 1) (planM l n).1.a.u (if upP (planO l n) = ⟨#[]⟩ then (planM l n).1.b.u else upP (planO l n)))).map (·.2.1) = (planO l n).take 3 := by
  have hov := fun g => over_level l (show n + 1 < 4 by omega) (planM l n).1.a.u g
  rw [show ((n + 1 : Nat) : Int) = (n : Int) + 1 by omega] at hov
  rw [hov, List.map_map]
  show ((l (n + 1)).filter _).map (·.1) = _
  have hO := planO_level l hn
  by_cases h3 : (planO l n).length ≤ 3
  · have hu : upP (planO l n) = ⟨#[]⟩ := by unfold upP; rw [if_pos h3]
    rw [hu, if_pos rfl, List.take_of_length_le h3, hO]
  · have hap : apart (l (n + 1)) := verOk_apart h (by omega) (by omega)
    have hab : ∀ r ∈ l (n + 1), cmpB r.1.a.u r.1.b.u ≤ 0 := fun r hr => mOk_ab (verOk_m h (by omega) hr)
    obtain ⟨R, hR⟩ : ∃ R, R = (l (n + 1)).filter (covR (planM l n).1.a.u (planM l n).1.b.u) := ⟨_, rfl⟩
    rw [← hR] at hO
    have hl : (planO l n).length = R.length := by rw [hO, List.length_map]
    obtain ⟨x, hx⟩ : ∃ x, R[2]? = some x := ⟨_, List.getElem?_eq_getElem (by omega)⟩
    have hu : upP (planO l n) = x.1.b.u := by
      unfold upP
      rw [if_neg h3, List.getD_eq_getElem?_getD, hO, List.getElem?_map, hx]; rfl
    have hne : ¬ x.1.b.u = ⟨#[]⟩ := by
      intro e
      have hpR : apart R := by rw [hR]; exact hap.sublist List.filter_sublist
      have h02 := List.pairwise_iff_getElem.1 hpR 0 2 (by omega) (by omega) (by omega)
      have hx2 : R[2]'(by omega) = x := by have := List.getElem?_eq_some_iff.1 hx; exact this.2
      rw [hx2] at h02
      have hxL : x ∈ l (n + 1) := (List.mem_filter.1 (by rw [← hR]; exact List.mem_of_getElem? hx)).1
      have := cmpB_lt_trans h02 (hab x hxL)
      rw [e] at this
      exact cmpB_nil _ this
    rw [hu, if_neg hne, covR_upto hap hab (by rw [← hR]; exact hx), ← hR, hO, List.map_take]
/-- a table of a plan's zone is the plan's -/
theorem plan_the {l : Nat → List Mr} (h : verOk l = true) {n : Nat} (hn : n < 3) (hlen : 0 < (l n).length) {r : Mr} (hr : r ∈ l n) (hz : r.1.z = (planM l n).1.z) : r = planM l n :=
  (ver_one h (show n < 4 by omega) (by omega) hr (planM_mem hlen) hz).2
theorem fullN_len {l : Nat → List Mr} {n : Nat} (h : fullN l = some n) : n < 3 ∧ 0 < (l n).length := by
  unfold fullN at h
  split at h
  · rename_i q; injection h with h; subst h; exact ⟨by omega, by omega⟩
  split at h
  · rename_i q; injection h with h; subst h; exact ⟨by omega, by omega⟩
  split at h
  · rename_i q; injection h with h; subst h; exact ⟨by omega, by omega⟩
  · cases h
theorem pressAt_eq {l : Nat → List Mr} {n m : Nat} (h : pressAt l n = some m) : m = n := by
  unfold pressAt at h
  split at h
  · injection h with h; exact h.symm
  · cases h
theorem pressN_len {l : Nat → List Mr} {n : Nat} (h : pressN l = some n) : n < 3 ∧ 0 < (l n).length := by
  unfold pressN at h
  split at h
  · rename_i q; have := pressAt_eq h; subst this; exact ⟨by omega, q⟩
  split at h
  · rename_i q; have := pressAt_eq h; subst this; exact ⟨by omega, q⟩
  split at h
  · rename_i q; have := pressAt_eq h; subst this; exact ⟨by omega, q⟩
  · cases h
/-- the plan that is told -/
def optP (l : Nat → List Mr) : Option Nat → Pn
  | some n => planP l n
  | none => Pn.zero
theorem opt_is {W : World} {base : Nat} {l : Nat → List Mr} {o : Option Nat} {cs : Array Value} {b a : Bool} {p : Pn} (h : OptPlan W base l o cs b) (hp : optP l o = p) (ha : o.isSome = a) : a = b ∧ PlanIs W base cs p := by
  subst hp ha
  cases o with
  | none => exact ⟨h.1.symm, h.2⟩
  | some n => exact ⟨h.1.symm, h.2⟩
theorem IsDz.row1 {w : World} {b off : Nat} {l : List Int} (h : ∀ i x, l[i]? = some x → ∀ j y, (dzC x)[j]? = some y → w.cell? ⟨b, off + i * 1 + j, none⟩ = some y) {i : Nat} {x : Int} (hx : l[i]? = some x) : w.cell? ⟨b, off + i, none⟩ = some (.int .i64 x) := by
  have := h i x hx 0 _ rfl
  rw [Nat.mul_one] at this
  exact this
theorem drew_blk {W : World} {b : Nat} {x : Obj} (h : W.heap[b]? = some x) : W.drew.heap[b]? = some x := h
end Go.Proofs.YtcmndnglmpkpdaaDoor.Tithe
