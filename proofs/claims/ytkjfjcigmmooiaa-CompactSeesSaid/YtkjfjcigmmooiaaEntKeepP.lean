/- What compact.Keep keeps, as the document says it: plain. -/
import Derived.Test.YtkjfjcigmmooiaaEntKeep
import Derived.Test.YtkjfjcigmmooiaaEntGet
namespace Go.Proofs.Ytkjfjcigmmooiaa.Tithe
open Go.RowKit Go.Sort Go.Shelf
set_option linter.unusedVariables false
/-! ### what is kept of marked entries, from the end -/
abbrev Mk := En × Bool
def finK (cv : ByteArray → Bool) : List Mk → List Mk
  | [] => []
  | x :: t => (x.1, x.2 && !(decide (x.1.key.k = 2) && (!((finK cv t).any fun y => decide (y.1.key.u = x.1.key.u) && y.2) && !cv x.1.key.u))) :: finK cv t
theorem finK_fst (cv : ByteArray → Bool) : ∀ A : List Mk, (finK cv A).map (·.1) = A.map (·.1)
  | [] => rfl
  | x :: t => by show x.1 :: (finK cv t).map (·.1) = _; rw [finK_fst cv t]; rfl
theorem finK_append (cv : ByteArray → Bool) : ∀ (A B : List Mk), (∀ a ∈ A, ∀ b ∈ B, b.1.key.u ≠ a.1.key.u) → finK cv (A ++ B) = finK cv A ++ finK cv B
  | [], B, _ => rfl
  | x :: A, B, h => by
    have ih := finK_append cv A B (fun a ha b hb => h a (List.mem_cons_of_mem _ ha) b hb)
    have hB : ((finK cv B).any fun y => decide (y.1.key.u = x.1.key.u) && y.2) = false := by
      rw [List.any_eq_false]
      intro y hy
      have : y.1 ∈ (finK cv B).map (·.1) := List.mem_map.2 ⟨y, hy, rfl⟩
      rw [finK_fst] at this
      obtain ⟨b, hb, e⟩ := List.mem_map.1 this
      have hne := h x List.mem_cons_self b hb
      rw [e] at hne
      simp [hne]
    show (x.1, x.2 && !(decide (x.1.key.k = 2) && (!((finK cv (A ++ B)).any fun y => decide (y.1.key.u = x.1.key.u) && y.2) && !cv x.1.key.u))) :: finK cv (A ++ B) = (x.1, x.2 && !(decide (x.1.key.k = 2) && (!((finK cv A).any fun y => decide (y.1.key.u = x.1.key.u) && y.2) && !cv x.1.key.u))) :: (finK cv A ++ finK cv B)
    rw [ih, List.any_append, hB, Bool.or_false]
def keptM (A : List Mk) : List En := (A.filter (·.2)).map (·.1)
def trimL (S : List En) (d : Bool) : List En := S.take (trimN S d S.length)
theorem trimN_cons (x : En) (S : List En) (d : Bool) : ∀ j, j ≤ S.length → trimN (x :: S) d (j + 1) = if trimN S d j = 0 then (if x.key.k = 2 ∧ d = false then 0 else 1) else trimN S d j + 1
  | 0, _ => by
    show (if ((x :: S).getD 0 En.nil).key.k = 2 ∧ d = false then trimN (x :: S) d 0 else 1) = _
    rw [show (x :: S).getD 0 En.nil = x from rfl, show trimN (x :: S) d 0 = 0 from rfl, show trimN S d 0 = 0 from rfl, if_pos rfl]
  | j + 1, hj => by
    have ih := trimN_cons x S d j (by omega)
    show (if ((x :: S).getD (j + 1) En.nil).key.k = 2 ∧ d = false then trimN (x :: S) d (j + 1) else j + 1 + 1) = _
    rw [show (x :: S).getD (j + 1) En.nil = S.getD j En.nil from by simp [List.getD_eq_getElem?_getD]]
    show _ = if (if (S.getD j En.nil).key.k = 2 ∧ d = false then trimN S d j else j + 1) = 0 then _ else (if (S.getD j En.nil).key.k = 2 ∧ d = false then trimN S d j else j + 1) + 1
    by_cases hc : (S.getD j En.nil).key.k = 2 ∧ d = false
    · rw [if_pos hc, if_pos hc, ih]
    · rw [if_neg hc, if_neg hc, if_neg (by omega)]
theorem trimL_cons (x : En) (S : List En) (d : Bool) : trimL (x :: S) d = if trimL S d = [] then (if x.key.k = 2 ∧ d = false then [] else [x]) else x :: trimL S d := by
  unfold trimL
  have hle := trimN_le S d S.length
  rw [List.length_cons, trimN_cons x S d S.length (Nat.le_refl _)]
  by_cases h0 : trimN S d S.length = 0
  · rw [if_pos h0, h0, List.take_zero, if_pos rfl]
    split <;> simp
  · rw [if_neg h0]
    have hne : S.take (trimN S d S.length) ≠ [] := by
      intro q
      have := congrArg List.length q
      rw [List.length_take, List.length_nil] at this
      omega
    rw [if_neg hne, List.take_succ_cons]
/-- of one user's entries -/
theorem fin_group (cv : ByteArray → Bool) (u : ByteArray) : ∀ A : List Mk, (∀ a ∈ A, a.1.key.u = u) → keptM (finK cv A) = trimL (keptM A) (cv u)
  | [], _ => rfl
  | x :: t, h => by
    have ih := fin_group cv u t (fun a ha => h a (List.mem_cons_of_mem _ ha))
    have hxu := h x List.mem_cons_self
    have hany : ((finK cv t).any fun y => decide (y.1.key.u = x.1.key.u) && y.2) = !decide (keptM (finK cv t) = []) := by
      have hus : ∀ y ∈ finK cv t, y.1.key.u = x.1.key.u := fun y hy => by
        have : y.1 ∈ (finK cv t).map (·.1) := List.mem_map.2 ⟨y, hy, rfl⟩
        rw [finK_fst] at this
        obtain ⟨b, hb, e⟩ := List.mem_map.1 this
        rw [← e, hxu]
        exact h b (List.mem_cons_of_mem _ hb)
      rw [Bool.eq_iff_iff, List.any_eq_true]
      unfold keptM
      simp only [Bool.not_eq_true', decide_eq_false_iff_not, List.map_eq_nil_iff, List.filter_eq_nil_iff]
      constructor
      · rintro ⟨y, hy, q⟩ hall
        rw [Bool.and_eq_true] at q
        exact hall y hy q.2
      · intro hn
        by_cases q : ∃ y ∈ finK cv t, y.2 = true
        · obtain ⟨y, hy, q⟩ := q
          exact ⟨y, hy, by rw [q, decide_eq_true (hus y hy)]; rfl⟩
        · exact absurd (fun y hy e => q ⟨y, hy, e⟩) hn
    have hk : keptM (finK cv (x :: t)) = if (x.2 && !(decide (x.1.key.k = 2) && (!(!decide (keptM (finK cv t) = [])) && !cv x.1.key.u))) = true then x.1 :: keptM (finK cv t) else keptM (finK cv t) := by
      show (((x.1, _) :: finK cv t).filter (·.2)).map (·.1) = _
      rw [hany, List.filter_cons]
      split <;> rfl
    have hs : keptM (x :: t) = if x.2 = true then x.1 :: keptM t else keptM t := by
      unfold keptM
      rw [List.filter_cons]
      split <;> rfl
    rw [hk, hs, hxu, ih]
    cases hb : x.2 with
    | false => simp
    | true =>
      rw [if_pos rfl, trimL_cons]
      by_cases h0 : trimL (keptM t) (cv u) = []
      · rw [if_pos h0, h0]
        by_cases h2 : x.1.key.k = 2
        · cases hc : cv u <;> simp [h2]
        · simp [h2]
      · rw [if_neg h0]
        simp [h0]
/-! ### the marks ahead of the trimming -/
def k0 (l : List En) (zs : List Int) (i : Nat) : Bool := decide (getI l (l.getD i En.nil).key.u 1099511627776 = (i : Int)) || zs.any fun z => decide (getI l (l.getD i En.nil).key.u z = (i : Int))
theorem findIdx_none {α : Type} {p : α → Bool} {l : List α} (h : ∀ x ∈ l, p x = false) : l.findIdx? p = none := List.findIdx?_eq_none_iff.2 h
theorem findIdx_congr {α : Type} {p q : α → Bool} : ∀ {l : List α}, (∀ x ∈ l, p x = q x) → l.findIdx? p = l.findIdx? q
  | [], _ => rfl
  | x :: l, h => by
    rw [List.findIdx?_cons, List.findIdx?_cons, h x List.mem_cons_self, findIdx_congr (fun y hy => h y (List.mem_cons_of_mem _ hy))]
theorem getI_mid {pre g post : List En} {u : ByteArray} (hpre : ∀ x ∈ pre, x.key.u ≠ u) (hg : ∀ x ∈ g, x.key.u = u) (hpost : ∀ x ∈ post, x.key.u ≠ u) (z : Int) :
    getI (pre ++ (g ++ post)) u z = match g.findIdx? (fun x => decide (x.key.s ≤ z)) with | some i => ((i + pre.length : Nat) : Int) | none => -1 := by
  have h1 : pre.findIdx? (getP u z) = none := findIdx_none (fun x hx => by unfold getP; rw [decide_eq_false (hpre x hx)]; rfl)
  have h3 : post.findIdx? (getP u z) = none := findIdx_none (fun x hx => by unfold getP; rw [decide_eq_false (hpost x hx)]; rfl)
  have h2 : g.findIdx? (getP u z) = g.findIdx? (fun x => decide (x.key.s ≤ z)) := findIdx_congr (fun x hx => by unfold getP; rw [decide_eq_true (hg x hx)]; rfl)
  unfold getI
  rw [List.findIdx?_append, h1, List.findIdx?_append, h3, h2]
  cases g.findIdx? (fun x => decide (x.key.s ≤ z)) <;> rfl
theorem first_iff {g : List En} (hs : g.Pairwise fun x y => y.key.s ≤ x.key.s) {j : Nat} (hj : j < g.length) (z : Int) :
    g.findIdx? (fun x => decide (x.key.s ≤ z)) = some j ↔ (g.getD j En.nil).key.s ≤ z ∧ (j = 0 ∨ ¬ (g.getD (j - 1) En.nil).key.s ≤ z) := by
  have gd : ∀ k (hk : k < g.length), g.getD k En.nil = g[k] := fun k hk => by rw [List.getD_eq_getElem?_getD, List.getElem?_eq_getElem hk]; rfl
  rw [List.findIdx?_eq_some_iff_getElem, gd j hj]
  constructor
  · rintro ⟨_, h1, h2⟩
    refine ⟨by simpa using h1, ?_⟩
    rcases Nat.eq_zero_or_pos j with q | q
    · exact .inl q
    · have := h2 (j - 1) (by omega)
      rw [gd (j - 1) (by omega)]
      exact .inr (by simpa using this)
  · rintro ⟨h1, h2⟩
    refine ⟨hj, by simpa using h1, fun k hk => ?_⟩
    rcases h2 with q | q
    · omega
    · rw [gd (j - 1) (by omega)] at q
      have hle : (g[j - 1]'(by omega)).key.s ≤ (g[k]'(by omega)).key.s := by
        by_cases e : k = j - 1
        · subst e; exact Int.le_refl _
        · exact List.pairwise_iff_getElem.1 hs k (j - 1) (by omega) (by omega) (by omega)
      simp only [Bool.not_eq_true, decide_eq_false_iff_not]
      omega
/-- in a group the marks are compact's -/
theorem k0_seen {pre g post : List En} {u : ByteArray} (zs : List Int) (hpre : ∀ x ∈ pre, x.key.u ≠ u) (hg : ∀ x ∈ g, x.key.u = u) (hpost : ∀ x ∈ post, x.key.u ≠ u) (hs : g.Pairwise fun x y => y.key.s ≤ x.key.s) (hb : ∀ x ∈ g, x.key.s ≤ 1099511627776) {j : Nat} (hj : j < g.length) :
    k0 (pre ++ (g ++ post)) zs (pre.length + j) = seenAt g zs j := by
  have hel : (pre ++ (g ++ post)).getD (pre.length + j) En.nil = g.getD j En.nil := by
    rw [List.getD_eq_getElem?_getD, List.getD_eq_getElem?_getD, List.getElem?_append_right (Nat.le_add_right _ _), Nat.add_sub_cancel_left, List.getElem?_append_left hj]
  have gd : ∀ k (hk : k < g.length), g.getD k En.nil = g[k] := fun k hk => by rw [List.getD_eq_getElem?_getD, List.getElem?_eq_getElem hk]; rfl
  have hu : (g.getD j En.nil).key.u = u := by rw [gd j hj]; exact hg _ (List.getElem_mem hj)
  have hz : ∀ z, decide (getI (pre ++ (g ++ post)) u z = ((pre.length + j : Nat) : Int)) = decide (g.findIdx? (fun x => decide (x.key.s ≤ z)) = some j) := fun z => by
    rw [getI_mid hpre hg hpost z, Bool.eq_iff_iff, decide_eq_true_eq, decide_eq_true_eq]
    cases hf : g.findIdx? (fun x => decide (x.key.s ≤ z)) with
    | none => simp; omega
    | some i =>
      show ((i + pre.length : Nat) : Int) = _ ↔ some i = some j
      rw [Option.some.injEq]; omega
  unfold k0 seenAt
  rw [hel, hu, hz]
  have h0 : decide (g.findIdx? (fun x => decide (x.key.s ≤ 1099511627776)) = some j) = decide (j = 0) := by
    rw [Bool.eq_iff_iff, decide_eq_true_eq, decide_eq_true_eq, first_iff hs hj]
    constructor
    · rintro ⟨-, q | q⟩
      · exact q
      · exact absurd (by rw [gd (j - 1) (by omega)]; exact hb _ (List.getElem_mem (by omega))) q
    · intro q
      exact ⟨by rw [gd j hj]; exact hb _ (List.getElem_mem hj), .inl q⟩
  rw [h0]
  by_cases e : j = 0
  · rw [decide_eq_true e, Bool.true_or, Bool.true_or]
  · rw [decide_eq_false e, Bool.false_or, Bool.false_or]
    congr 1
    funext z
    rw [hz z, Bool.eq_iff_iff, decide_eq_true_eq, first_iff hs hj]
    unfold sAt
    simp only [Bool.and_eq_true, decide_eq_true_eq, Bool.not_eq_true', decide_eq_false_iff_not]
    constructor
    · rintro ⟨h1, q | q⟩
      · exact absurd q e
      · exact ⟨h1, q⟩
    · rintro ⟨h1, h2⟩
      exact ⟨h1, .inr h2⟩
theorem kept_seen (g : List En) (zs : List Int) : ∀ k, keptM ((List.range k).map fun j => (g.getD j En.nil, seenAt g zs j)) = seenTo g zs k
  | 0 => rfl
  | k + 1 => by
    rw [List.range_succ, List.map_append]
    unfold keptM
    rw [List.filter_append, List.map_append]
    have ih := kept_seen g zs k
    unfold keptM at ih
    rw [ih]
    show seenTo g zs k ++ (([(g.getD k En.nil, seenAt g zs k)] : List Mk).filter (·.2)).map (·.1) = if seenAt g zs k then seenTo g zs k ++ [g.getD k En.nil] else seenTo g zs k
    cases hq : seenAt g zs k <;> simp
theorem headRun_spec (x : En) (l : List En) : (∀ y ∈ (x :: l).take (headRun (x :: l)), y.key.u = x.key.u) ∧ ∀ y, ((x :: l).drop (headRun (x :: l)))[0]? = some y → y.key.u ≠ x.key.u := by
  cases h : (x :: l).findIdx? (fun y => decide (cmpB y.key.u x.key.u ≠ 0)) with
  | none =>
    rw [headRun_none h]
    have h2 := List.findIdx?_eq_none_iff.1 h
    refine ⟨fun y hy => ?_, fun y hy => ?_⟩
    · rw [List.take_length] at hy
      have := h2 y hy
      exact (cmpB_zero _ _).1 (by simpa using this)
    · rw [List.drop_length] at hy; cases hy
  | some i =>
    rw [headRun_some h]
    obtain ⟨h1, h2, h3⟩ := List.findIdx?_eq_some_iff_getElem.1 h
    refine ⟨fun y hy => ?_, fun y hy => ?_⟩
    · obtain ⟨k, hk, rfl⟩ := List.mem_iff_getElem.1 hy
      rw [List.length_take] at hk
      rw [List.getElem_take]
      have := h3 k (by omega)
      exact (cmpB_zero _ _).1 (by simpa using this)
    · rw [List.getElem?_drop, Nat.add_zero, List.getElem?_eq_getElem h1] at hy
      injection hy with hy
      subst hy
      intro q
      simp [q, cmpB_self] at h2
/-- ordered entries -/
abbrev OrdE (l : List En) : Prop := l.Pairwise fun x y => cmpK x.key y.key < 0
theorem ord_same {x y : En} (h : cmpK x.key y.key < 0) (hu : y.key.u = x.key.u) : y.key.s ≤ x.key.s := by
  rcases (cmpK_lt _ _).1 h with q | ⟨-, q | ⟨q, -⟩⟩
  · rw [hu, cmpB_self] at q; omega
  · omega
  · omega
theorem keep_plain (zs : List Int) (dp : ByteArray → Bool) : ∀ (gs : List (List En)) (rest pre : List En), IsGr rest gs → OrdE rest → (∀ a ∈ pre, ∀ b ∈ rest, a.key.u ≠ b.key.u) → (∀ x ∈ rest, x.key.s ≤ 1099511627776) →
    keptM (finK dp ((List.range rest.length).map fun j => (rest.getD j En.nil, k0 (pre ++ rest) zs (pre.length + j)))) = gs.flatMap (keepOf zs dp)
  | [], rest, pre, h, _, _, _ => by rw [show rest = [] from h]; rfl
  | g :: gs, [], pre, ⟨_, h, _⟩, _, _, _ => absurd rfl h
  | g :: gs, x :: l, pre, ⟨hg, _, hgr⟩, ho, hpre, hb => by
    obtain ⟨hsame, hnext⟩ := headRun_spec x l
    obtain ⟨post, hpo⟩ : ∃ post, post = (x :: l).drop (headRun (x :: l)) := ⟨_, rfl⟩
    rw [← hg] at hsame
    rw [← hpo] at hnext hgr
    have hr : x :: l = g ++ post := by rw [hg, hpo, List.take_append_drop]
    have hgl : 1 ≤ g.length := by
      have h1 := headRun_pos (l := x :: l) (by simp)
      have h2 := headRun_le (x :: l)
      rw [hg, List.length_take]; omega
    have hxg : g[0]? = some x := by
      have : (x :: l)[0]? = some x := rfl
      rw [hr, List.getElem?_append_left (by omega)] at this; exact this
    have hxm : x ∈ g := List.mem_of_getElem? hxg
    rw [hr] at ho hpre hb ⊢
    obtain ⟨hog, hop, hcross⟩ := List.pairwise_append.1 ho
    have hpost : ∀ y ∈ post, y.key.u ≠ x.key.u := by
      intro y hy e
      match post, hnext, hop, hcross, hy with
      | z :: t, hnext, hop, hcross, hy =>
        have hz := hnext z rfl
        have hxz := hcross x hxm z List.mem_cons_self
        have hlt : cmpB x.key.u z.key.u < 0 := by
          have h1 := cmpK_le _ _ hxz
          by_cases q : cmpB x.key.u z.key.u = 0
          · exact absurd ((cmpB_zero _ _).1 q).symm hz
          · omega
        rcases List.mem_cons.1 hy with rfl | hy
        · exact hz e
        · have h1 := cmpK_le _ _ ((List.pairwise_cons.1 hop).1 y hy)
          have := cmpB_lt_trans hlt h1
          rw [e, cmpB_self] at this; omega
    have hs : g.Pairwise fun a b => b.key.s ≤ a.key.s := List.Pairwise.imp_of_mem (fun {a b} ha hb' q => ord_same q (by rw [hsame b hb', hsame a ha])) hog
    have hpu : ∀ a ∈ pre, a.key.u ≠ x.key.u := fun a ha => hpre a ha x (List.mem_append.2 (.inl hxm))
    have hbg : ∀ y ∈ g, y.key.s ≤ 1099511627776 := fun y hy => hb y (List.mem_append.2 (.inl hy))
    have ih := keep_plain zs dp gs post (pre ++ g) hgr hop (fun a ha b hb' => by
      rcases List.mem_append.1 ha with ha | ha
      · exact hpre a ha b (List.mem_append.2 (.inr hb'))
      · intro e; exact hpost b hb' (by rw [← e]; exact hsame a ha)) (fun y hy => hb y (List.mem_append.2 (.inr hy)))
    have hsplit : ((List.range (g ++ post).length).map fun j => ((g ++ post).getD j En.nil, k0 (pre ++ (g ++ post)) zs (pre.length + j))) = ((List.range g.length).map fun j => (g.getD j En.nil, seenAt g zs j)) ++ ((List.range post.length).map fun j => (post.getD j En.nil, k0 (pre ++ g ++ post) zs ((pre ++ g).length + j))) := by
      rw [List.length_append, List.range_add, List.map_append, List.map_map]
      congr 1
      · refine List.map_congr_left fun j hj => ?_
        have hj := List.mem_range.1 hj
        rw [k0_seen zs hpu hsame hpost hs hbg hj, List.getD_eq_getElem?_getD, List.getD_eq_getElem?_getD, List.getElem?_append_left hj]
      · refine List.map_congr_left fun j hj => ?_
        show ((g ++ post).getD (g.length + j) En.nil, k0 (pre ++ (g ++ post)) zs (pre.length + (g.length + j))) = _
        rw [List.getD_eq_getElem?_getD, List.getD_eq_getElem?_getD, List.getElem?_append_right (Nat.le_add_right _ _), Nat.add_sub_cancel_left, List.append_assoc, List.length_append, Nat.add_assoc]
    rw [hsplit, finK_append]
    · have hk : ∀ A B : List Mk, keptM (A ++ B) = keptM A ++ keptM B := fun A B => by unfold keptM; rw [List.filter_append, List.map_append]
      rw [hk, ih, List.flatMap_cons, fin_group dp x.key.u, kept_seen]
      · congr 1
        unfold keepOf trimL
        rw [show (g.getD 0 En.nil).key.u = x.key.u by rw [List.getD_eq_getElem?_getD, hxg]; rfl]
      · intro a ha
        obtain ⟨j, hj, rfl⟩ := List.mem_map.1 ha
        have hj := List.mem_range.1 hj
        show (g.getD j En.nil).key.u = _
        rw [List.getD_eq_getElem?_getD, List.getElem?_eq_getElem hj]
        exact hsame _ (List.getElem_mem hj)
    · intro a ha b hb'
      obtain ⟨j, hj, rfl⟩ := List.mem_map.1 ha
      obtain ⟨k, hk, rfl⟩ := List.mem_map.1 hb'
      have hj := List.mem_range.1 hj
      have hk := List.mem_range.1 hk
      show (post.getD k En.nil).key.u ≠ (g.getD j En.nil).key.u
      rw [List.getD_eq_getElem?_getD, List.getD_eq_getElem?_getD, List.getElem?_eq_getElem hj, List.getElem?_eq_getElem hk]
      show post[k].key.u ≠ g[j].key.u
      rw [hsame _ (List.getElem_mem hj)]
      exact hpost _ (List.getElem_mem hk)
end Go.Proofs.Ytkjfjcigmmooiaa.Tithe
