/- Edits one behind the other, plain. -/
import Derived.Test.YtcmndnglmpkpdaaDoorRefApply
import Derived.Test.YtcmndnglmpkpdaaDoorLevSmall
namespace Go.Proofs.YtcmndnglmpkpdaaDoor.Tithe
open Go.RowKit Go.Sort Go.Shelf
set_option linter.unusedVariables false
/-! ### levels that agree -/
def LvE (L L' : Lv) : Prop := ∀ n, n < 4 → L n = L' n
def OLvE : Option Lv → Option Lv → Prop
  | none, none => True
  | some L, some L' => LvE L L'
  | _, _ => False
def OLvE2 : Option (Lv × Int) → Option (Lv × Int) → Prop
  | none, none => True
  | some s, some s' => LvE s.1 s'.1 ∧ s.2 = s'.2
  | _, _ => False
theorem LvE.refl (L : Lv) : LvE L L := fun _ _ => rfl
theorem LvE.symm {L L' : Lv} (h : LvE L L') : LvE L' L := fun n hn => (h n hn).symm
theorem LvE.trans {L L' L'' : Lv} (h : LvE L L') (h' : LvE L' L'') : LvE L L'' := fun n hn => (h n hn).trans (h' n hn)
theorem hasP_lt {L : Lv} {z : Int} {n i : Nat} (h : hasP L z = some (n, i)) : n < 4 := by
  unfold hasP at h
  simp only [hasF] at h
  split at h
  · cases h; omega
  · split at h
    · cases h; omega
    · split at h
      · cases h; omega
      · split at h
        · cases h; omega
        · cases h
theorem dropP_congr {L L' : Lv} {a : Int} (h : LvE L L') (z : Int) : OLvE2 (dropP (L, a) z) (dropP (L', a) z) := by
  unfold dropP
  dsimp only
  rw [hasP_congr h z]
  cases hp : hasP L' z with
  | none => trivial
  | some p =>
    obtain ⟨n, i⟩ := p
    refine ⟨?_, rfl⟩
    dsimp only
    rw [h n (hasP_lt hp)]
    exact fun m hm => Lv.upd_congr h n _ m hm
theorem dropsP_congr {L L' : Lv} {a : Int} (h : LvE L L') (zs : List Int) : ∀ k, OLvE2 (dropsP (L, a) zs k) (dropsP (L', a) zs k)
  | 0 => ⟨h, rfl⟩
  | k + 1 => by
    have ih := dropsP_congr (a := a) h zs k
    unfold dropsP
    cases h1 : dropsP (L, a) zs k with
    | none =>
      cases h2 : dropsP (L', a) zs k with
      | none => trivial
      | some s => rw [h1, h2] at ih; exact ih.elim
    | some s =>
      cases h2 : dropsP (L', a) zs k with
      | none => rw [h1, h2] at ih; exact ih.elim
      | some s' =>
        rw [h1, h2] at ih
        obtain ⟨s1, s2⟩ := s
        obtain ⟨t1, t2⟩ := s'
        obtain ⟨e1, e2⟩ := ih
        dsimp only at e1 e2
        subst e2
        exact dropP_congr e1 _
theorem addP_congr {L L' : Lv} {a : Int} (h : LvE L L') (p : Int × Mt) : OLvE (addP L a p) (addP L' a p) := by
  unfold addP
  by_cases hp : p.1 < 0 ∨ 4 ≤ p.1
  · rw [if_pos hp, if_pos hp]; trivial
  · rw [if_neg hp, if_neg hp]
    have hn : p.1.toNat < 4 := by omega
    have ha : addAt L a p = addAt L' a p := by unfold addAt; rw [h _ hn]
    rw [ha, h _ hn]
    exact fun m hm => Lv.upd_congr h _ _ m hm
theorem addsP_congr {L L' : Lv} {a : Int} (h : LvE L L') (ps : List (Int × Mt)) : ∀ k, OLvE (addsP L a ps k) (addsP L' a ps k)
  | 0 => h
  | k + 1 => by
    have ih := addsP_congr (a := a) h ps k
    unfold addsP
    cases h1 : addsP L a ps k with
    | none =>
      cases h2 : addsP L' a ps k with
      | none => trivial
      | some s => rw [h1, h2] at ih; exact ih.elim
    | some s =>
      cases h2 : addsP L' a ps k with
      | none => rw [h1, h2] at ih; exact ih.elim
      | some s' => rw [h1, h2] at ih; exact addP_congr ih _
theorem applyP_congr {L L' : Lv} (h : LvE L L') (zs : List Int) (ps : List (Int × Mt)) : OLvE (applyP L zs ps) (applyP L' zs ps) := by
  have hd := dropsP_congr (a := -1) h zs zs.length
  unfold applyP
  cases h1 : dropsP (L, -1) zs zs.length with
  | none =>
    cases h2 : dropsP (L', -1) zs zs.length with
    | none => trivial
    | some s => rw [h1, h2] at hd; exact hd.elim
  | some s =>
    cases h2 : dropsP (L', -1) zs zs.length with
    | none => rw [h1, h2] at hd; exact hd.elim
    | some s' =>
      rw [h1, h2] at hd
      obtain ⟨s1, s2⟩ := s
      obtain ⟨t1, t2⟩ := s'
      obtain ⟨e1, e2⟩ := hd
      dsimp only at e1 e2
      subst e2
      have ha := addsP_congr (a := s2) e1 ps ps.length
      dsimp only
      cases h3 : addsP s1 s2 ps ps.length with
      | none =>
        cases h4 : addsP t1 s2 ps ps.length with
        | none => trivial
        | some A => rw [h3, h4] at ha; exact ha.elim
      | some A =>
        cases h4 : addsP t1 s2 ps ps.length with
        | none => rw [h3, h4] at ha; exact ha.elim
        | some B =>
          rw [h3, h4] at ha
          dsimp only
          rw [verOkP_congr ha]
          cases verOkP B
          · trivial
          · exact ha
theorem applyP_none {L L' : Lv} (h : LvE L L') {zs : List Int} {ps : List (Int × Mt)} (hn : applyP L' zs ps = none) : applyP L zs ps = none := by
  have := applyP_congr h zs ps
  rw [hn] at this
  cases h1 : applyP L zs ps with
  | none => rfl
  | some A => rw [h1] at this; exact this.elim
theorem applyP_some {L L' A : Lv} (h : LvE L L') {zs : List Int} {ps : List (Int × Mt)} (hn : applyP L' zs ps = some A) : ∃ B, applyP L zs ps = some B ∧ LvE B A := by
  have := applyP_congr h zs ps
  rw [hn] at this
  cases h1 : applyP L zs ps with
  | none => rw [h1] at this; exact this.elim
  | some B => rw [h1] at this; exact ⟨B, rfl, this⟩
/-! ### small levels -/
def mtSmall (m : Mt) : Prop := m.refs.length ≤ 20 ∧ m.a.u.size ≤ 200 ∧ m.b.u.size ≤ 200
def LvS (L : Lv) (B : Nat) : Prop := ∀ n, n < 4 → (L n).length ≤ B ∧ ∀ m ∈ L n, mtSmall m
theorem LvS.upd {L : Lv} {B B' n : Nat} {x : List Mt} (h : LvS L B) (hB : B ≤ B') (h1 : x.length ≤ B') (h2 : ∀ m ∈ x, mtSmall m) : LvS (L.upd n x) B' := by
  intro m hm
  unfold Lv.upd
  split
  · exact ⟨h1, h2⟩
  · exact ⟨Nat.le_trans (h m hm).1 hB, (h m hm).2⟩
theorem dropP_small {s t : Lv × Int} {B : Nat} {z : Int} (h : LvS s.1 B) (hd : dropP s z = some t) : LvS t.1 B := by
  unfold dropP at hd
  cases hp : hasP s.1 z with
  | none => rw [hp] at hd; cases hd
  | some p =>
    obtain ⟨n, i⟩ := p
    rw [hp] at hd
    cases hd
    have hn := hasP_lt hp
    exact h.upd (Nat.le_refl _) (Nat.le_trans (List.length_eraseIdx_le _ _) (h n hn).1) (fun m hm => (h n hn).2 m (List.mem_of_mem_eraseIdx hm))
theorem dropsP_small {s : Lv × Int} {B : Nat} {zs : List Int} (h : LvS s.1 B) : ∀ (k : Nat) {t : Lv × Int}, dropsP s zs k = some t → LvS t.1 B
  | 0, t, ht => by cases ht; exact h
  | k + 1, t, ht => by
    unfold dropsP at ht
    cases h1 : dropsP s zs k with
    | none => rw [h1] at ht; cases ht
    | some u => rw [h1] at ht; exact dropP_small (dropsP_small h k h1) ht
theorem addP_small {L L' : Lv} {B : Nat} {a : Int} {p : Int × Mt} (h : LvS L B) (hp : mtSmall p.2) (hd : addP L a p = some L') : LvS L' (B + 1) := by
  unfold addP at hd
  split at hd
  · cases hd
  · rename_i hn
    cases hd
    have hn4 : p.1.toNat < 4 := by omega
    refine h.upd (by omega) ?_ ?_
    · rw [List.length_append, List.length_take, List.length_cons, List.length_drop]
      have := (h _ hn4).1
      omega
    · intro m hm
      rcases List.mem_append.1 hm with hm | hm
      · exact (h _ hn4).2 m (List.mem_of_mem_take hm)
      · rcases List.mem_cons.1 hm with rfl | hm
        · exact hp
        · exact (h _ hn4).2 m (List.mem_of_mem_drop hm)
theorem addsP_small {L : Lv} {B : Nat} {a : Int} {ps : List (Int × Mt)} (h : LvS L B) (hp : ∀ p ∈ ps, mtSmall p.2) : ∀ (k : Nat) {L' : Lv}, k ≤ ps.length → addsP L a ps k = some L' → LvS L' (B + k)
  | 0, L', _, ht => by cases ht; exact h
  | k + 1, L', hk, ht => by
    unfold addsP at ht
    cases h1 : addsP L a ps k with
    | none => rw [h1] at ht; cases ht
    | some u =>
      rw [h1] at ht
      refine addP_small (addsP_small h hp k (by omega) h1) ?_ ht
      rw [List.getD_eq_getElem?_getD, List.getElem?_eq_getElem (by omega)]
      exact hp _ (List.getElem_mem _)
theorem applyP_small {L L' : Lv} {B : Nat} {zs : List Int} {ps : List (Int × Mt)} (h : LvS L B) (hp : ∀ p ∈ ps, mtSmall p.2) (ha : applyP L zs ps = some L') : LvS L' (B + ps.length) ∧ verOkP L' = true := by
  unfold applyP at ha
  cases h1 : dropsP (L, -1) zs zs.length with
  | none => rw [h1] at ha; cases ha
  | some st =>
    rw [h1] at ha
    dsimp only at ha
    cases h2 : addsP st.1 st.2 ps ps.length with
    | none => rw [h2] at ha; cases ha
    | some A =>
      rw [h2] at ha
      dsimp only at ha
      split at ha
      · rename_i hv
        cases ha
        exact ⟨addsP_small (dropsP_small h _ h1) hp _ (Nat.le_refl _) h2, hv⟩
      · cases ha
/-! ### play -/
def stepP (L : Lv) (e : Ed) : Lv := match applyP L e.zs (psM e.ps) with | none => L | some L' => L'
def playP (l : List Ed) : Nat → Lv
  | 0 => fun _ => []
  | k + 1 => stepP (playP l k) (l.getD k Ed.nil)
theorem playP_succ {l : List Ed} {k : Nat} {e : Ed} (h : l[k]? = some e) : playP l (k + 1) = stepP (playP l k) e := by
  show stepP (playP l k) (l.getD k Ed.nil) = _
  rw [List.getD_eq_getElem?_getD, h]; rfl
theorem edSmall_ps {e : Ed} (h : edSmall e = true) : e.ps.length ≤ 10 ∧ e.zs.length ≤ 10 ∧ ∀ p ∈ e.ps, mtSmall p.2.1 := by
  unfold edSmall at h
  simp only [Bool.and_eq_true, decide_eq_true_eq, List.all_eq_true] at h
  refine ⟨h.1, h.2.1, fun p hp => ?_⟩
  have := h.2.2 p hp
  unfold plSmall at this
  simp only [Bool.and_eq_true, decide_eq_true_eq] at this
  exact ⟨this.1, this.2.1, this.2.2⟩
theorem psM_small {e : Ed} (h : edSmall e = true) : ∀ p ∈ psM e.ps, mtSmall p.2 := by
  intro p hp
  obtain ⟨q, hq, rfl⟩ := List.mem_map.1 hp
  exact (edSmall_ps h).2.2 q hq
theorem psM_len (ps : List (Int × Mr)) : (psM ps).length = ps.length := List.length_map _
theorem smallB_ed {l : List Ed} (h : smallB l = true) : (∀ e ∈ l, edSmall e = true) ∧ l.length ≤ 40 := by
  unfold smallB at h
  simp only [Bool.and_eq_true, decide_eq_true_eq, List.all_eq_true] at h
  exact h
theorem playP_ok {l : List Ed} (h : smallB l = true) : ∀ k, k ≤ l.length → LvS (playP l k) (10 * k) ∧ verOkP (playP l k) = true
  | 0, _ => ⟨fun n hn => ⟨Nat.zero_le _, fun m hm => by cases hm⟩, show verOkP (fun _ => []) = true by decide⟩
  | k + 1, hk => by
    have he : l[k]? = some l[k] := List.getElem?_eq_getElem (by omega)
    have hs := (smallB_ed h).1 _ (List.mem_of_getElem? he)
    obtain ⟨h1, h2⟩ := playP_ok h k (by omega)
    rw [playP_succ he]
    unfold stepP
    cases ha : applyP (playP l k) (l[k]).zs (psM (l[k]).ps) with
    | none => exact ⟨fun n hn => ⟨Nat.le_trans (h1 n hn).1 (by omega), (h1 n hn).2⟩, h2⟩
    | some A =>
      obtain ⟨h3, h4⟩ := applyP_small h1 (psM_small hs) ha
      have hq := (edSmall_ps hs).1
      rw [psM_len] at h3
      exact ⟨fun n hn => ⟨Nat.le_trans (h3 n hn).1 (by omega), (h3 n hn).2⟩, h4⟩
/-! ### what is so of a version of these levels -/
theorem lvS_l {l : Nat → List Mr} {L : Lv} {B : Nat} (h : LvS L B) (he : LvE (lvOf l) L) : ∀ n, n < 4 → (l n).length ≤ B ∧ ∀ r ∈ l n, mtSmall r.1 := by
  intro n hn
  have e : (l n).map (·.1) = L n := he n hn
  obtain ⟨h1, h2⟩ := h n hn
  rw [← e] at h1 h2
  rw [List.length_map] at h1
  exact ⟨h1, fun r hr => h2 _ (List.mem_map.2 ⟨r, hr, rfl⟩)⟩
theorem lvS_tabs {l : Nat → List Mr} {L : Lv} {B : Nat} (h : LvS L B) (he : LvE (lvOf l) L) : (tabs l 4).length ≤ 4 * B ∧ ∀ p ∈ tabs l 4, mtSmall p.2.1 := by
  have hl := lvS_l h he
  refine ⟨tabs_le 4 (fun n hn => (hl n hn).1), fun p hp => ?_⟩
  obtain ⟨hn, hp⟩ := tabs_mem hp
  exact (hl _ hn).2 _ hp
theorem lvE_ver {l : Nat → List Mr} {L : Lv} (hv : verOkP L = true) (he : LvE (lvOf l) L) : verOk l = true := by
  rw [verOk_lv, verOkP_congr he, hv]
theorem small_gd {m : Mt} (h : mtSmall m) : gdM m := by
  obtain ⟨h1, h2, h3⟩ := h
  unfold gdM maxLen
  omega
end Go.Proofs.YtcmndnglmpkpdaaDoor.Tithe
