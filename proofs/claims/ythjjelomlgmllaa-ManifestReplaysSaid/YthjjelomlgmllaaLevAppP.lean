/- Version.Apply, plain: what its two loops keep. -/
import Derived.Test.YthjjelomlgmllaaLevPlain
namespace Go.Proofs.Ythjjelomlgmllaa.Tithe
open Go.RowKit Go.Sort Go.Shelf
set_option linter.unusedVariables false
theorem sortS_iff (l : List Mr) : sortS l ↔ l.Pairwise fun x y => cmpK x.1.a y.1.a ≤ 0 := by
  rw [List.pairwise_iff_getElem]
  constructor
  · intro h i j hi hj hij
    exact h i j _ _ hij (List.getElem?_eq_getElem hi) (List.getElem?_eq_getElem hj)
  · intro h i j x y hij hx hy
    obtain ⟨hi, rfl⟩ := List.getElem?_eq_some_iff.1 hx
    obtain ⟨hj, rfl⟩ := List.getElem?_eq_some_iff.1 hy
    exact h i j hi hj hij
theorem sortS_erase {l : List Mr} (h : sortS l) (i : Nat) : sortS (l.eraseIdx i) := (sortS_iff _).2 (((sortS_iff _).1 h).sublist (List.eraseIdx_sublist _ _))
theorem insN_le (l : List Mr) (k : Ky) : insN l k ≤ l.length := by
  unfold insN
  cases h : l.findIdx? (fun r => decide (0 ≤ cmpK r.1.a k)) with
  | none => exact Nat.le_refl _
  | some i => exact Nat.le_of_lt (List.findIdx?_eq_some_iff_getElem.1 h).1
theorem insN_lo {l : List Mr} {k : Ky} {t : Nat} {x : Mr} (ht : t < insN l k) (hx : l[t]? = some x) : cmpK x.1.a k ≤ 0 := by
  unfold insN at ht
  obtain ⟨hl, rfl⟩ := List.getElem?_eq_some_iff.1 hx
  cases h : l.findIdx? (fun r => decide (0 ≤ cmpK r.1.a k)) with
  | none =>
    have := List.findIdx?_eq_none_iff.1 h _ (List.getElem_mem hl)
    simp at this
    omega
  | some i =>
    rw [h] at ht
    have := (List.findIdx?_eq_some_iff_getElem.1 h).2.2 t ht
    simp at this
    omega
theorem insN_hi {l : List Mr} {k : Ky} {t : Nat} {x : Mr} (hs : sortS l) (ht : insN l k ≤ t) (hx : l[t]? = some x) : cmpK k x.1.a ≤ 0 := by
  unfold insN at ht
  have hl := (List.getElem?_eq_some_iff.1 hx).1
  cases h : l.findIdx? (fun r => decide (0 ≤ cmpK r.1.a k)) with
  | none => rw [h] at ht; have ht : l.length ≤ t := ht; omega
  | some i =>
    rw [h] at ht
    obtain ⟨h1, h2, -⟩ := List.findIdx?_eq_some_iff_getElem.1 h
    have h3 : cmpK k l[i].1.a ≤ 0 := by
      have := cmpK_swap l[i].1.a k
      simp at h2
      omega
    rcases Nat.lt_or_eq_of_le (show i ≤ t from ht) with h4 | h4
    · exact cmpK_le_le h3 (hs i t _ _ h4 (List.getElem?_eq_getElem h1) hx)
    · subst h4
      rw [List.getElem?_eq_getElem h1] at hx
      injection hx with hx
      rw [← hx]; exact h3
theorem sortS_ins {l : List Mr} (h : sortS l) (r : Mr) : sortS (l.take (insN l r.1.a) ++ r :: l.drop (insN l r.1.a)) := by
  have hp := (sortS_iff _).1 h
  refine (sortS_iff _).2 (List.pairwise_append.2 ⟨hp.sublist (List.take_sublist _ _), List.pairwise_cons.2 ⟨fun y hy => ?_, hp.sublist (List.drop_sublist _ _)⟩, fun x hx y hy => ?_⟩)
  · obtain ⟨j, hj, rfl⟩ := List.mem_iff_getElem.1 hy
    refine insN_hi h (t := insN l r.1.a + j) (Nat.le_add_right _ _) ?_
    rw [List.getElem_drop]; exact List.getElem?_eq_getElem _
  · obtain ⟨i, hi, rfl⟩ := List.mem_iff_getElem.1 hx
    rw [List.length_take] at hi
    have hx1 : cmpK ((l.take (insN l r.1.a))[i]'(by rw [List.length_take]; exact hi)).1.a r.1.a ≤ 0 := by
      rw [List.getElem_take]
      exact insN_lo (t := i) (by omega) (List.getElem?_eq_getElem (by omega))
    rcases List.mem_cons.1 hy with rfl | hy
    · exact hx1
    · obtain ⟨j, hj, rfl⟩ := List.mem_iff_getElem.1 hy
      refine cmpK_le_le hx1 (insN_hi h (t := insN l r.1.a + j) (Nat.le_add_right _ _) ?_)
      rw [List.getElem_drop]; exact List.getElem?_eq_getElem _
/-! ### a good version's levels are sorted -/
theorem sepOk_at {l : List Mr} : ∀ {n k : Nat}, sepOk l n = true → k < n → sepAt l k = true
  | n + 1, k, h, hk => by
    have h' : (sepOk l n && sepAt l n) = true := h
    rw [Bool.and_eq_true] at h'
    rcases Nat.lt_succ_iff_lt_or_eq.1 hk with h2 | h2
    · exact sepOk_at h'.1 h2
    · rw [h2]; exact h'.2
theorem tabsOk_at {ts : List (Nat × Mr)} : ∀ {n k : Nat}, tabsOk ts n = true → k < n → tabOk ts k = true
  | n + 1, k, h, hk => by
    have h' : (tabsOk ts n && tabOk ts n) = true := h
    rw [Bool.and_eq_true] at h'
    rcases Nat.lt_succ_iff_lt_or_eq.1 hk with h2 | h2
    · exact tabsOk_at h'.1 h2
    · rw [h2]; exact h'.2
theorem mem_tabs (l : Nat → List Mr) {n m : Nat} {r : Mr} (hn : n < m) (hr : r ∈ l n) : (n, r) ∈ tabs l m := by
  induction m with
  | zero => omega
  | succ m ih =>
    show (n, r) ∈ tabs l m ++ (l m).map fun r => (m, r)
    rcases Nat.lt_succ_iff_lt_or_eq.1 hn with h | h
    · exact List.mem_append.2 (.inl (ih h))
    · subst h; exact List.mem_append.2 (.inr (List.mem_map.2 ⟨r, hr, rfl⟩))
theorem verOk_m {l : Nat → List Mr} (h : verOk l = true) {n : Nat} (hn : n < 4) {r : Mr} (hr : r ∈ l n) : mOk r.1 = true := by
  unfold verOk at h
  rw [Bool.and_eq_true] at h
  obtain ⟨k, hk, e⟩ := List.mem_iff_getElem.1 (mem_tabs l hn hr)
  have := tabsOk_at h.1 hk
  unfold tabOk at this
  rw [List.getD_eq_getElem?_getD, List.getElem?_eq_getElem hk, e, Bool.and_eq_true] at this
  exact this.1
theorem verOk_sep {l : Nat → List Mr} (h : verOk l = true) {n : Nat} (h1 : 1 ≤ n) (hn : n < 4) : sepOk (l n) (l n).length = true := by
  unfold verOk at h
  simp only [Bool.and_eq_true] at h
  obtain ⟨-, q1, q2, q3⟩ := h
  match n, h1, hn with
  | 1, _, _ => exact q1
  | 2, _, _ => exact q2
  | 3, _, _ => exact q3
theorem verOk_sort {l : Nat → List Mr} (h : verOk l = true) {n : Nat} (h1 : 1 ≤ n) (hn : n < 4) : sortS (l n) := by
  have hs := verOk_sep h h1 hn
  have hstep : ∀ (i : Nat) (x y : Mr), (l n)[i]? = some x → (l n)[i + 1]? = some y → cmpK x.1.a y.1.a ≤ 0 := by
    intro i x y hx hy
    have hl := (List.getElem?_eq_some_iff.1 hy).1
    have h2 := sepOk_at hs hl
    unfold sepAt at h2
    rw [List.getD_eq_getElem?_getD, List.getD_eq_getElem?_getD, show i + 1 - 1 = i by omega, hx, hy] at h2
    have h4 : cmpB x.1.b.u y.1.a.u < 0 := by simpa using h2
    have h5 := verOk_m h hn (List.mem_of_getElem? hx)
    have h6 : cmpK x.1.a x.1.b ≤ 0 := by
      unfold mOk metaOk headOk at h5
      simp only [Bool.and_eq_true, decide_eq_true_eq] at h5
      exact h5.1.2
    have h7 : cmpK x.1.b y.1.a < 0 := (cmpK_lt _ _).2 (.inl h4)
    exact Int.le_of_lt (cmpK_le_lt h6 h7)
  have hd : ∀ (d i : Nat) (x y : Mr), (l n)[i]? = some x → (l n)[i + 1 + d]? = some y → cmpK x.1.a y.1.a ≤ 0 := by
    intro d
    induction d with
    | zero => intro i x y hx hy; exact hstep i x y hx hy
    | succ d ih =>
      intro i x y hx hy
      have hl := (List.getElem?_eq_some_iff.1 hy).1
      have hm := List.getElem?_eq_getElem (l := l n) (i := i + 1) (by omega)
      exact cmpK_le_le (hstep i x _ hx hm) (ih (i + 1) _ y hm (by rw [show i + 1 + 1 + d = i + 1 + (d + 1) by omega]; exact hy))
  intro i j x y hij hx hy
  exact hd (j - (i + 1)) i x y hx (by rw [show i + 1 + (j - (i + 1)) = j by omega]; exact hy)
/-! ### what the loops keep -/
structure ApL (l : Nat → List Mr) (B : Nat) (at0 : Int) : Prop where
  len : ∀ n, n < 4 → (l n).length ≤ B
  refs : ∀ n, n < 4 → ∀ r ∈ l n, r.1.refs.length ≤ 1000000
  sort : ∀ n, 1 ≤ n → n < 4 → sortS (l n)
  at0 : at0 = -1 ∨ (0 ≤ at0 ∧ at0 ≤ (l 0).length)
def updL (l : Nat → List Mr) (n : Nat) (x : List Mr) : Nat → List Mr := fun i => if i = n then x else l i
theorem updL_ite (l : Nat → List Mr) (n : Nat) (x : List Mr) (i : Nat) (p : List Mr → Prop) (h1 : i = n → p x) (h2 : i ≠ n → p (l i)) : p (updL l n x i) := by
  unfold updL
  split
  · next h => exact h1 h
  · next h => exact h2 h
theorem ApL.drop {l : Nat → List Mr} {B : Nat} {at0 : Int} (h : ApL l B at0) {n i : Nat} (hn : n < 4) (hi : i < (l n).length) : ApL (updL l n ((l n).eraseIdx i)) B (dropAt n i at0) := by
  refine ⟨fun m hm => ?_, fun m hm => ?_, fun m h1 hm => ?_, ?_⟩
  · exact updL_ite l n _ m (fun q => q.length ≤ B) (fun _ => Nat.le_trans (List.eraseIdx_sublist _ _).length_le (h.len n hn)) (fun _ => h.len m hm)
  · exact updL_ite l n _ m (fun q => ∀ r ∈ q, r.1.refs.length ≤ 1000000) (fun _ r hr => h.refs n hn r ((List.eraseIdx_sublist _ _).subset hr)) (fun _ => h.refs m hm)
  · exact updL_ite l n _ m sortS (fun e => sortS_erase (h.sort n (by omega) hn) _) (fun _ => h.sort m h1 hm)
  · have hlen : ((l n).eraseIdx i).length = (l n).length - 1 := List.length_eraseIdx_of_lt hi
    have h0 := h.at0
    unfold dropAt updL
    by_cases e : n = 0
    · subst e
      rw [if_pos (rfl : (0 : Nat) = 0), hlen]
      split
      · right; omega
      · split
        · right; omega
        · rcases h0 with h0 | h0
          · omega
          · right; omega
    · rw [if_neg (fun q => e q.1), if_neg (fun q => e q.1), if_neg (fun q => e q.symm)]
      exact h0
theorem ApL.ins {l : Nat → List Mr} {B : Nat} {at0 : Int} (h : ApL l B at0) {n i : Nat} (hn : n < 4) (r : Mr) (hi : i ≤ (l n).length) (hr : r.1.refs.length ≤ 1000000) (hs : 1 ≤ n → i = insN (l n) r.1.a) : ApL (updL l n ((l n).take i ++ r :: (l n).drop i)) (B + 1) at0 := by
  have hlen : ((l n).take i ++ r :: (l n).drop i).length = (l n).length + 1 := by simp; omega
  refine ⟨fun m hm => ?_, fun m hm => ?_, fun m h1 hm => ?_, ?_⟩
  · exact updL_ite l n _ m (fun q => q.length ≤ B + 1) (fun _ => by rw [hlen]; have := h.len n hn; omega) (fun _ => Nat.le_succ_of_le (h.len m hm))
  · refine updL_ite l n _ m (fun q => ∀ r ∈ q, r.1.refs.length ≤ 1000000) (fun _ q hq => ?_) (fun _ => h.refs m hm)
    rcases List.mem_append.1 hq with hq | hq
    · exact h.refs n hn q (List.mem_of_mem_take hq)
    · rcases List.mem_cons.1 hq with rfl | hq
      · exact hr
      · exact h.refs n hn q (List.mem_of_mem_drop hq)
  · exact updL_ite l n _ m sortS (fun e => by rw [hs (by omega)]; exact sortS_ins (h.sort n (by omega) hn) r) (fun _ => h.sort m h1 hm)
  · rcases h.at0 with h0 | ⟨h0, h1⟩
    · exact .inl h0
    · refine .inr ⟨h0, ?_⟩
      refine updL_ite l n _ 0 (fun q => at0 ≤ q.length) (fun e => ?_) (fun _ => h1)
      subst e; rw [hlen]; omega
theorem lvOf_upd (l : Nat → List Mr) (n : Nat) (x : List Mr) : lvOf (updL l n x) = (lvOf l).upd n (x.map (·.1)) := by
  funext i
  unfold lvOf updL Lv.upd
  split <;> rfl
theorem Lv.upd_congr {L L' : Lv} (h : ∀ m, m < 4 → L m = L' m) (n : Nat) (x : List Mt) : ∀ m, m < 4 → L.upd n x m = L'.upd n x m := by
  intro m hm
  unfold Lv.upd
  split
  · rfl
  · exact h m hm
/-- one drop -/
theorem drop_some {l : Nat → List Mr} {L : Lv} {at0 : Int} (h : ∀ m, m < 4 → lvOf l m = L m) {z : Int} {n i : Nat} (hn : n < 4) (hp : hasP (lvOf l) z = some (n, i)) :
    ∃ L', dropP (L, at0) z = some (L', dropAt n i at0) ∧ ∀ m, m < 4 → lvOf (updL l n ((l n).eraseIdx i)) m = L' m := by
  refine ⟨L.upd n ((L n).eraseIdx i), ?_, ?_⟩
  · unfold dropP
    rw [← hasP_congr h z, hp]
  · rw [lvOf_upd, map_erase]
    have := Lv.upd_congr h n ((lvOf l n).eraseIdx i)
    rw [← h n hn]; exact this
theorem drop_none {l : Nat → List Mr} {L : Lv} {at0 : Int} (h : ∀ m, m < 4 → lvOf l m = L m) {z : Int} (hp : hasP (lvOf l) z = none) : dropP (L, at0) z = none := by
  unfold dropP
  rw [← hasP_congr h z, hp]
theorem dropsP_none {st : Lv × Int} {zs : List Int} {k : Nat} (h : dropsP st zs k = none) : ∀ n, k ≤ n → dropsP st zs n = none
  | 0, hn => by rw [← (show k = 0 by omega)]; exact h
  | n + 1, hn => by
    rcases Nat.lt_or_eq_of_le hn with h2 | h2
    · show (match dropsP st zs n with | none => none | some s => dropP s (zs.getD n 0)) = none
      rw [dropsP_none h n (by omega)]
    · rw [← h2]; exact h
theorem dropsP_step {st s : Lv × Int} {zs : List Int} {k : Nat} {z : Int} (h : dropsP st zs k = some s) (hz : zs[k]? = some z) : dropsP st zs (k + 1) = dropP s z := by
  show (match dropsP st zs k with | none => none | some s => dropP s (zs.getD k 0)) = _
  rw [h, List.getD_eq_getElem?_getD, hz]; rfl
theorem addsP_none {L : Lv} {at0 : Int} {ps : List (Int × Mt)} {k : Nat} (h : addsP L at0 ps k = none) : ∀ n, k ≤ n → addsP L at0 ps n = none
  | 0, hn => by rw [← (show k = 0 by omega)]; exact h
  | n + 1, hn => by
    rcases Nat.lt_or_eq_of_le hn with h2 | h2
    · show (match addsP L at0 ps n with | none => none | some L' => addP L' at0 (ps.getD n (0, Mt.nil))) = none
      rw [addsP_none h n (by omega)]
    · rw [← h2]; exact h
theorem addsP_step {L L' : Lv} {at0 : Int} {ps : List (Int × Mt)} {k : Nat} {p : Int × Mt} (h : addsP L at0 ps k = some L') (hp : ps[k]? = some p) : addsP L at0 ps (k + 1) = addP L' at0 p := by
  show (match addsP L at0 ps k with | none => none | some L' => addP L' at0 (ps.getD k (0, Mt.nil))) = _
  rw [h, List.getD_eq_getElem?_getD, hp]; rfl
theorem addAt_rows {l : Nat → List Mr} {L : Lv} (h : ∀ m, m < 4 → lvOf l m = L m) (at0 : Int) (p : Int × Mt) (h0 : 0 ≤ p.1) (h4 : p.1 < 4) : addAt L at0 p = if 0 < p.1 then insN (l p.1.toNat) p.2.a else (max at0 0).toNat := by
  unfold addAt
  rw [← h p.1.toNat (by omega)]
  unfold lvOf
  rw [insP_rows]
theorem add_some {l : Nat → List Mr} {L : Lv} {at0 : Int} (h : ∀ m, m < 4 → lvOf l m = L m) {p : Int × Mt} {n i : Nat} (hn : p.1 = n) (h4 : n < 4) (r : Mr) (hr : r.1 = p.2) (hi : i = addAt L at0 p) :
    ∃ L', addP L at0 p = some L' ∧ ∀ m, m < 4 → lvOf (updL l n ((l n).take i ++ r :: (l n).drop i)) m = L' m := by
  refine ⟨L.upd n ((L n).take i ++ p.2 :: (L n).drop i), ?_, ?_⟩
  · unfold addP
    rw [if_neg (by omega), hn, Int.toNat_natCast, ← hi]
  · rw [lvOf_upd]
    have := Lv.upd_congr h n ((L n).take i ++ p.2 :: (L n).drop i)
    have e : ((l n).take i ++ r :: (l n).drop i).map (·.1) = (L n).take i ++ p.2 :: (L n).drop i := by
      rw [← h n h4, List.map_append, List.map_cons, List.map_take, List.map_drop, hr]; rfl
    rw [e]; exact this
theorem add_none {L : Lv} {at0 : Int} {p : Int × Mt} (h : p.1 < 0 ∨ 4 ≤ p.1) : addP L at0 p = none := by
  unfold addP; rw [if_pos h]
end Go.Proofs.Ythjjelomlgmllaa.Tithe
