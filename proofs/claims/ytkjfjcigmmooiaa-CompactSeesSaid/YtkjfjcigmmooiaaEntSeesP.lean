/- What compact.Keep keeps is seen as before: plain laws. -/
import Derived.Test.YtkjfjcigmmooiaaEntOnceP
import Derived.Test.YtkjfjcigmmooiaaEntPick
namespace Go.Proofs.Ytkjfjcigmmooiaa.Tithe
open Go.RowKit Go.Sort Go.Shelf
set_option linter.unusedVariables false
set_option maxRecDepth 100000
theorem keptM_find (p : En → Bool) : ∀ F : List Mk, (keptM F).find? p = (F.find? fun m => m.2 && p m.1).map (·.1)
  | [] => rfl
  | m :: F => by
    have ih := keptM_find p F
    obtain ⟨x, f⟩ := m
    cases f with
    | false =>
      show (keptM F).find? p = _
      rw [ih, List.find?_cons]; rfl
    | true =>
      show (x :: keptM F).find? p = _
      rw [List.find?_cons, List.find?_cons]
      cases hq : p x with
      | true => simp
      | false => simp only [Bool.and_false]; exact ih
theorem keptM_sub (F : List Mk) : (keptM F).Sublist (F.map (·.1)) := List.Sublist.map _ List.filter_sublist
theorem keepL_list (l : List En) (zs : List Int) (dp : ByteArray → Bool) : (keepL l zs dp).Sublist l := by
  have := keptM_sub (finK dp (marksE l zs))
  rwa [finK_fst, marksE_fst] at this
theorem keepL_ord {l : List En} (h : OrdE l) (zs : List Int) (dp : ByteArray → Bool) : OrdE (keepL l zs dp) := List.Pairwise.sublist (keepL_list l zs dp) h
theorem ord_idx {l : List En} (h : OrdE l) {i j : Nat} {x y : En} (hx : l[i]? = some x) (hy : l[j]? = some y) (e : x.key = y.key) : i = j := by
  have hi := List.getElem?_eq_some_iff.1 hx
  have hj := List.getElem?_eq_some_iff.1 hy
  rcases Nat.lt_trichotomy i j with q | q | q
  · have := List.pairwise_iff_getElem.1 h i j hi.1 hj.1 q
    rw [hi.2, hj.2, e, cmpK_self] at this; omega
  · exact q
  · have := List.pairwise_iff_getElem.1 h j i hj.1 hi.1 q
    rw [hi.2, hj.2, e, cmpK_self] at this; omega
theorem marksE_at {l : List En} (zs : List Int) {i : Nat} {x : En} (h : l[i]? = some x) : (marksE l zs)[i]? = some (x, k0 l zs i) := by
  have hi := (List.getElem?_eq_some_iff.1 h).1
  unfold marksE
  rw [List.getElem?_map, List.getElem?_range hi]
  show some (l.getD i En.nil, _) = _
  rw [List.getD_eq_getElem?_getD, h]; rfl
theorem marksE_len (l : List En) (zs : List Int) : (marksE l zs).length = l.length := by unfold marksE; simp
theorem k0_iff {l : List En} {zs : List Int} {i : Nat} {x : En} (h : l[i]? = some x) : k0 l zs i = true ↔ ∃ s, (s = 1099511627776 ∨ s ∈ zs) ∧ l.findIdx? (getP x.key.u s) = some i := by
  have hg : l.getD i En.nil = x := by rw [List.getD_eq_getElem?_getD, h]; rfl
  have hI : ∀ s, getI l x.key.u s = (i : Int) ↔ l.findIdx? (getP x.key.u s) = some i := fun s => by
    unfold getI
    cases l.findIdx? (getP x.key.u s) with
    | none => first | (simp; done) | (simp; omega)
    | some j => first | (simp; done) | (simp; omega)
  unfold k0
  rw [hg, Bool.or_eq_true, decide_eq_true_eq, List.any_eq_true, hI]
  constructor
  · rintro (h1 | ⟨z, hz, h1⟩)
    · exact ⟨_, .inl rfl, h1⟩
    · exact ⟨z, .inr hz, (hI z).1 (of_decide_eq_true h1)⟩
  · rintro ⟨s, rfl | hs, h1⟩
    · exact .inl h1
    · exact .inr ⟨s, hs, decide_eq_true ((hI s).2 h1)⟩
theorem find_idx {l : List En} {p : En → Bool} {x : En} (h : l.find? p = some x) : ∃ i : Nat, l[i]? = some x ∧ p x = true ∧ (∀ j y, j < i → l[j]? = some y → p y = false) := by
  obtain ⟨h1, i, hi, h2, h3⟩ := List.find?_eq_some_iff_getElem.1 h
  refine ⟨i, (List.getElem?_eq_getElem hi).trans (congrArg some h2), h1, fun j y hj hy => ?_⟩
  have := h3 j hj
  rw [(List.getElem?_eq_some_iff.1 hy).2] at this
  simpa using this
/-- the flag of an entry that some number sees -/
theorem fin_flag {l : List En} {zs : List Int} (dp : ByteArray → Bool) {i : Nat} {x : En} (h : l[i]? = some x) : (finK dp (marksE l zs))[i]? = some (x, k0 l zs i && !(decide (x.key.k = 2) && (!elderK dp (marksE l zs) x.key.u i (l.length - (i + 1)) && !dp x.key.u))) := by
  have := finK_at dp (marksE l zs) (marksE_at zs h)
  rwa [marksE_len] at this
theorem sees_kept {l : List En} {zs : List Int} (dp : ByteArray → Bool) {u : ByteArray} {s : Int} (hs : s = 1099511627776 ∨ s ∈ zs) :
    match pickE l u s with
    | some x => pickE (keepL l zs dp) u s = some x ∨ (pickE (keepL l zs dp) u s = none ∧ x.key.k = 2 ∧ dp u = false)
    | none => pickE (keepL l zs dp) u s = none := by
  have hfst : (finK dp (marksE l zs)).map (·.1) = l := by rw [finK_fst, marksE_fst]
  have hat : ∀ {j : Nat} {m : Mk}, (finK dp (marksE l zs))[j]? = some m → l[j]? = some m.1 := fun {j m} hm => by
    have := congrArg (fun L => L[j]?) hfst
    simp only [List.getElem?_map, hm, Option.map_some] at this
    exact this.symm
  have hb : pickE (keepL l zs dp) u s = ((finK dp (marksE l zs)).find? fun m => m.2 && getP u s m.1).map (·.1) := keptM_find (getP u s) _
  cases ha : pickE l u s with
  | none =>
    show pickE (keepL l zs dp) u s = none
    unfold pickE
    rw [List.find?_eq_none]
    intro x hx
    have := List.find?_eq_none.1 ha x (keepL_sub hx)
    exact this
  | some x =>
    obtain ⟨i, hi, hpx, hfirst⟩ := find_idx ha
    have hpx2 : getP u s x = true := hpx
    have hu : x.key.u = u := by
      simp only [Bool.and_eq_true, decide_eq_true_eq] at hpx
      exact hpx.1
    have hk : k0 l zs i = true := (k0_iff hi).2 ⟨s, hs, by rw [hu]; exact idx_at hfirst hi hpx⟩
    have hfl := fin_flag (zs := zs) dp hi
    rw [hk, Bool.true_and] at hfl
    show pickE (keepL l zs dp) u s = some x ∨ (pickE (keepL l zs dp) u s = none ∧ x.key.k = 2 ∧ dp u = false)
    have hlt := (List.getElem?_eq_some_iff.1 hfl).1
    cases hq : decide (x.key.k = 2) && (!elderK dp (marksE l zs) x.key.u i (l.length - (i + 1)) && !dp x.key.u) with
    | false =>
      left
      rw [hq] at hfl
      have hf : (finK dp (marksE l zs)).find? (fun m => m.2 && getP u s m.1) = some (x, true) := by
        rw [List.find?_eq_some_iff_getElem]
        refine ⟨by show (true && getP u s x) = true; rw [hpx2]; rfl, i, hlt, (List.getElem?_eq_some_iff.1 hfl).2, fun j hj => ?_⟩
        have hjl : j < (finK dp (marksE l zs)).length := Nat.lt_trans hj hlt
        have h1 := hfirst j _ hj (hat (List.getElem?_eq_getElem hjl))
        have h2 : getP u s ((finK dp (marksE l zs))[j]).1 = false := h1
        rw [h2, Bool.and_false]; rfl
      rw [hb, hf]; rfl
    | true =>
      right
      rw [hq] at hfl
      simp only [Bool.and_eq_true, decide_eq_true_eq, Bool.not_eq_true'] at hq
      refine ⟨?_, hq.1, by rw [← hu]; exact hq.2.2⟩
      have hf : (finK dp (marksE l zs)).find? (fun m => m.2 && getP u s m.1) = none := by
        rw [List.find?_eq_none]
        intro m hm hmq
        obtain ⟨j, hj⟩ := List.mem_iff_getElem?.1 hm
        rw [Bool.and_eq_true] at hmq
        rcases Nat.lt_trichotomy j i with q | q | q
        · have := hfirst j _ q (hat hj)
          have h2 : getP u s m.1 = false := this
          rw [h2] at hmq
          exact absurd hmq.2 (by simp)
        · subst q
          rw [hfl] at hj
          injection hj with hj
          rw [← hj] at hmq
          exact absurd hmq.1 (by simp)
        · have hel := hq.2.1
          unfold elderK at hel
          rw [List.any_eq_false] at hel
          have hmem : m ∈ ((finK dp (marksE l zs)).drop (i + 1)).take (l.length - (i + 1)) := by
            refine List.mem_of_getElem? (i := j - (i + 1)) ?_
            have hjl := (List.getElem?_eq_some_iff.1 hj).1
            rw [finK_len, marksE_len] at hjl
            rw [List.getElem?_take, if_pos (by omega), List.getElem?_drop, show i + 1 + (j - (i + 1)) = j by omega]
            exact hj
          have := hel m hmem
          have h3 : m.1.key.u = u := by
            have := hmq.2
            unfold getP at this
            simp only [Bool.and_eq_true, decide_eq_true_eq] at this
            exact this.1
          rw [hu, h3, hmq.1] at this
          simp at this
      rw [hb, hf]; rfl
/-! ### keeping again changes nothing -/
theorem kept_any (p : En → Bool) : ∀ G : List Mk, (((keptM G).map fun x => ((x, true) : Mk)).any fun y => p y.1 && y.2) = G.any fun y => p y.1 && y.2
  | [] => rfl
  | (x, false) :: G => by
    show (((keptM G).map fun x => ((x, true) : Mk)).any fun y => p y.1 && y.2) = _
    rw [kept_any p G, List.any_cons]; simp
  | (x, true) :: G => by
    show (((x :: keptM G).map fun x => ((x, true) : Mk)).any fun y => p y.1 && y.2) = _
    rw [List.map_cons, List.any_cons, List.any_cons, kept_any p G]
theorem fin_again (dp : ByteArray → Bool) : ∀ A : List Mk, finK dp ((keptM (finK dp A)).map fun x => ((x, true) : Mk)) = (keptM (finK dp A)).map fun x => ((x, true) : Mk)
  | [] => rfl
  | x :: t => by
    have ih := fin_again dp t
    obtain ⟨f, hf⟩ : ∃ f, f = (x.2 && !(decide (x.1.key.k = 2) && (!((finK dp t).any fun y => decide (y.1.key.u = x.1.key.u) && y.2) && !dp x.1.key.u))) := ⟨_, rfl⟩
    have e : finK dp (x :: t) = (x.1, f) :: finK dp t := by rw [hf]; rfl
    rw [e]
    cases f with
    | false => exact ih
    | true =>
      show finK dp ((x.1, true) :: ((keptM (finK dp t)).map fun x => ((x, true) : Mk))) = (x.1, true) :: ((keptM (finK dp t)).map fun x => ((x, true) : Mk))
      have e2 : finK dp ((x.1, true) :: ((keptM (finK dp t)).map fun x => ((x, true) : Mk))) = (x.1, true && !(decide (x.1.key.k = 2) && (!((finK dp ((keptM (finK dp t)).map fun x => ((x, true) : Mk))).any fun y => decide (y.1.key.u = x.1.key.u) && y.2) && !dp x.1.key.u))) :: finK dp ((keptM (finK dp t)).map fun x => ((x, true) : Mk)) := rfl
      rw [e2, ih, kept_any (fun y => decide (y.key.u = x.1.key.u))]
      have hf2 := hf.symm
      rw [Bool.and_eq_true] at hf2
      rw [hf2.2]; rfl
theorem first_min {l : List En} (ho : OrdE l) {i : Nat} {x : En} (hx : l[i]? = some x) {p : En → Bool} (hf : ∀ j y, j < i → l[j]? = some y → p y = false) {y : En} (hy : y ∈ l) (hp : p y = true) : ¬ cmpK y.key x.key < 0 := by
  intro hlt
  obtain ⟨j, hj⟩ := List.mem_iff_getElem?.1 hy
  rcases Nat.lt_trichotomy j i with q | q | q
  · rw [hf j y q hj] at hp; cases hp
  · subst q
    rw [hx] at hj
    injection hj with hj
    rw [hj, cmpK_self] at hlt; omega
  · have h1 := List.getElem?_eq_some_iff.1 hx
    have h2 := List.getElem?_eq_some_iff.1 hj
    have := List.pairwise_iff_getElem.1 ho i j h1.1 h2.1 q
    rw [h1.2, h2.2] at this
    rw [cmpK_swap] at hlt; omega
theorem k0_again {l : List En} (ho : OrdE l) {zs : List Int} (dp : ByteArray → Bool) {j : Nat} {x : En} (hx : (keepL l zs dp)[j]? = some x) : k0 (keepL l zs dp) zs j = true := by
  have hm := keptM_mem.1 (List.mem_of_getElem? hx)
  obtain ⟨i, hi⟩ := List.mem_iff_getElem?.1 hm
  have hfst : (finK dp (marksE l zs)).map (·.1) = l := by rw [finK_fst, marksE_fst]
  have hli : l[i]? = some x := by
    have := congrArg (fun L => L[i]?) hfst
    simp only [List.getElem?_map, hi, Option.map_some] at this
    exact this.symm
  rw [fin_flag dp hli] at hi
  injection hi with hi
  have hk : k0 l zs i = true := by
    have := congrArg Prod.snd hi
    dsimp only at this
    rw [Bool.and_eq_true] at this
    exact this.1
  obtain ⟨s, hs, hfi⟩ := (k0_iff hli).1 hk
  obtain ⟨h1, h2, h3⟩ := List.findIdx?_eq_some_iff_getElem.1 hfi
  have hpx : getP x.key.u s x = true := by
    have := (List.getElem?_eq_some_iff.1 hli).2
    rw [this] at h2; exact h2
  refine (k0_iff hx).2 ⟨s, hs, idx_at (fun j' y hj' hy => ?_) hx hpx⟩
  cases hq : getP x.key.u s y with
  | false => rfl
  | true =>
    exfalso
    have hlt : cmpK y.key x.key < 0 := by
      have a1 := List.getElem?_eq_some_iff.1 hx
      have a2 := List.getElem?_eq_some_iff.1 hy
      have := List.pairwise_iff_getElem.1 (keepL_ord ho zs dp) j' j a2.1 a1.1 hj'
      rw [a1.2, a2.2] at this
      exact this
    refine first_min ho hli (p := getP x.key.u s) (fun q z hq hz => ?_) (keepL_sub (List.mem_of_getElem? hy)) hq hlt
    have := h3 q hq
    rw [(List.getElem?_eq_some_iff.1 hz).2] at this
    simpa using this
theorem keep_again {l : List En} (ho : OrdE l) (zs : List Int) (dp : ByteArray → Bool) : keepL (keepL l zs dp) zs dp = keepL l zs dp := by
  have hm : marksE (keepL l zs dp) zs = (keepL l zs dp).map fun x => ((x, true) : Mk) := by
    apply List.ext_getElem?
    intro j
    rw [List.getElem?_map]
    cases hx : (keepL l zs dp)[j]? with
    | none =>
      have : (marksE (keepL l zs dp) zs).length ≤ j := by rw [marksE_len]; exact List.getElem?_eq_none_iff.1 hx
      rw [List.getElem?_eq_none this]; rfl
    | some x =>
      rw [marksE_at zs hx, k0_again ho dp hx]; rfl
  show keptM (finK dp (marksE (keepL l zs dp) zs)) = _
  rw [hm]
  have : finK dp ((keepL l zs dp).map fun x => ((x, true) : Mk)) = (keepL l zs dp).map fun x => ((x, true) : Mk) := fin_again dp (marksE l zs)
  rw [this]
  unfold keptM
  rw [List.filter_eq_self.2 (by intro a ha; obtain ⟨x, -, rfl⟩ := List.mem_map.1 ha; rfl), List.map_map]
  exact List.map_id _
theorem keepTo_ord (l : List En) (zs : List Int) (dp : ByteArray → Bool) (ho : OrdE l) (hb : ∀ x ∈ l, x.key.s ≤ 1099511627776) : keepTo (groupsL l) zs dp (groupsL l).length = keepL l zs dp := by
  have hk := keep_plain zs dp (groupsL l) l [] (isGr_groups l) ho (fun a ha => by cases ha) hb
  simp only [List.nil_append, List.length_nil, Nat.zero_add] at hk
  unfold keepL marksE
  rw [hk]
  unfold keepTo
  rw [List.take_length]
/-! ### how many are gone -/
theorem in_kept {l : List En} (ho : OrdE l) (zs : List Int) (dp : ByteArray → Bool) : (l.filter fun x => inK ((keepL l zs dp).map (·.key)) x.key) = keepL l zs dp := by
  have hfst : (finK dp (marksE l zs)).map (·.1) = l := by rw [finK_fst, marksE_fst]
  have hat : ∀ {j : Nat} {m : Mk}, (finK dp (marksE l zs))[j]? = some m → l[j]? = some m.1 := fun {j m} hm => by
    have := congrArg (fun L => L[j]?) hfst
    simp only [List.getElem?_map, hm, Option.map_some] at this
    exact this.symm
  have e0 : (l.filter fun x => inK ((keepL l zs dp).map (·.key)) x.key) = ((finK dp (marksE l zs)).map (·.1)).filter fun x => inK ((keepL l zs dp).map (·.key)) x.key := by rw [hfst]
  rw [e0, List.filter_map]
  show _ = ((finK dp (marksE l zs)).filter (·.2)).map (·.1)
  congr 1
  refine List.filter_congr fun m hm => ?_
  show inK ((keepL l zs dp).map (·.key)) m.1.key = m.2
  obtain ⟨i, hi⟩ := List.mem_iff_getElem?.1 hm
  rw [Bool.eq_iff_iff]
  constructor
  · intro h
    unfold inK at h
    obtain ⟨k, hk, e⟩ := List.any_eq_true.1 h
    obtain ⟨y, hy, rfl⟩ := List.mem_map.1 hk
    obtain ⟨j, hj⟩ := List.mem_iff_getElem?.1 (keptM_mem.1 hy)
    have := ord_idx ho (hat hj) (hat hi) (eqK_iff.1 e)
    subst this
    rw [hi] at hj
    injection hj with hj
    rw [hj]
  · intro h
    obtain ⟨x, f⟩ := m
    dsimp only at h
    subst h
    exact inK_mem (keptM_mem.2 hm)
theorem gone_len {l : List En} (ho : OrdE l) (zs : List Int) (dp : ByteArray → Bool) : (goneE l (keepL l zs dp)).length = l.length - (keepL l zs dp).length := by
  have h1 := List.length_eq_countP_add_countP (fun x : En => inK ((keepL l zs dp).map (·.key)) x.key) (l := l)
  rw [List.countP_eq_length_filter, in_kept ho, List.countP_eq_length_filter] at h1
  have e : goneE l (keepL l zs dp) = l.filter fun x => decide (¬ (inK ((keepL l zs dp).map (·.key)) x.key = true)) := by
    unfold goneE leftE
    refine List.filter_congr fun x _ => ?_
    show (!inK ((keepL l zs dp).map (·.key)) x.key) = _
    rw [Bool.eq_iff_iff]; simp
  rw [e]
  omega
end Go.Proofs.Ytkjfjcigmmooiaa.Tithe
