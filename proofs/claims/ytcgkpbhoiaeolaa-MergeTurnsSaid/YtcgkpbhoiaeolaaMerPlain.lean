/- Plain facts on runs: the one list, and what a cursor finds in it. -/
import Derived.Test.YtcgkpbhoiaeolaaMerCur
namespace Go.Proofs.Ytcgkpbhoiaeolaa.Tithe
set_option linter.unusedVariables false
def insR : List It → It → List It
  | [], x => [x]
  | y :: l, x => if x.1 < y.1 then x :: y :: l else y :: insR l x
theorem putF_done (x : It) (l : List It) : ∀ acc, l.foldl (putStep x) (acc, true) = (acc ++ l, true) := by
  induction l with
  | nil => intro acc; simp
  | cons y l ih => intro acc; rw [List.foldl_cons, show putStep x (acc, true) y = (acc ++ [y], true) from rfl, ih]; simp
theorem putF_ins (x : It) (l : List It) : ∀ acc, (if (l.foldl (putStep x) (acc, false)).2 then (l.foldl (putStep x) (acc, false)).1 else (l.foldl (putStep x) (acc, false)).1 ++ [x]) = acc ++ insR l x := by
  induction l with
  | nil => intro acc; simp [insR]
  | cons y l ih =>
    intro acc
    rw [List.foldl_cons]
    by_cases h : x.1 < y.1
    · rw [show putStep x (acc, false) y = (acc ++ [x, y], true) from by simp [putStep, h], putF_done, insR, if_pos h]; simp
    · rw [show putStep x (acc, false) y = (acc ++ [y], false) from by simp [putStep, h], ih, insR, if_neg h]; simp
theorem putL_ins (l : List It) (x : It) : putL l x = insR l x := by
  have h := putF_ins x l []
  unfold putL putF
  generalize l.foldl (putStep x) ([], false) = s at *
  obtain ⟨o, d⟩ := s
  cases d
  · simpa using h
  · simpa using h
def Asc (l : List It) : Prop := l.Pairwise fun a b => a.1 < b.1
theorem asc_of_run {l : List It} (h : runB l = true) : Asc l := by
  unfold Asc
  rw [List.pairwise_iff_getElem]
  intro i j hi hj hij
  have := run_lt h hij hj
  rwa [List.getD_eq_getElem?_getD, List.getElem?_eq_getElem hi, List.getD_eq_getElem?_getD, List.getElem?_eq_getElem hj] at this
theorem run_of_asc {l : List It} (h : Asc l) : runB l = true := by
  apply runB_true
  intro i h0 h1
  unfold Asc at h
  rw [List.pairwise_iff_getElem] at h
  have := h (i - 1) i (by omega) h1 (by omega)
  rwa [List.getD_eq_getElem?_getD, List.getElem?_eq_getElem (by omega), List.getD_eq_getElem?_getD, List.getElem?_eq_getElem h1]
theorem ins_mem (x q : It) (l : List It) : q ∈ insR l x ↔ q = x ∨ q ∈ l := by
  induction l with
  | nil => simp [insR]
  | cons y l ih =>
    unfold insR
    split
    · simp
    · simp only [List.mem_cons, ih]
      constructor
      · rintro (h | h | h) <;> simp [h]
      · rintro (h | h | h) <;> simp [h]
theorem ins_asc (x : It) (l : List It) (h : Asc l) (hn : ∀ z ∈ l, z.1 ≠ x.1) : Asc (insR l x) := by
  unfold Asc at h ⊢
  induction l with
  | nil => simp [insR]
  | cons y l ih =>
    rw [List.pairwise_cons] at h
    unfold insR
    split
    · rename_i hxy
      rw [List.pairwise_cons, List.pairwise_cons]
      refine ⟨fun z hz => ?_, h⟩
      rcases List.mem_cons.1 hz with rfl | hz
      · exact hxy
      · have := h.1 z hz; omega
    · rename_i hxy
      rw [List.pairwise_cons]
      refine ⟨fun z hz => ?_, ih h.2 fun z hz => hn z (by simp [hz])⟩
      rcases (ins_mem x z l).1 hz with rfl | hz
      · have := hn y (by simp); omega
      · exact h.1 z hz
theorem hasK_iff (o : List It) (K : Int) : hasK o K = true ↔ ∃ z ∈ o, z.1 = K := by simp [hasK]
theorem oneStep_mem (o : List It) (q p : It) : p ∈ oneStep o q ↔ p ∈ o ∨ (p = q ∧ ∀ z ∈ o, z.1 ≠ q.1) := by
  unfold oneStep
  by_cases h : hasK o q.1 = true
  · rw [if_pos h]
    rw [hasK_iff] at h
    obtain ⟨z, hz, e⟩ := h
    constructor
    · exact fun h => .inl h
    · rintro (h | ⟨_, h⟩)
      · exact h
      · exact absurd e (h z hz)
  · rw [if_neg h, putL_ins, ins_mem]
    rw [hasK_iff] at h
    constructor
    · rintro (h1 | h1)
      · exact .inr ⟨h1, fun z hz e => h ⟨z, hz, e⟩⟩
      · exact .inl h1
    · rintro (h1 | ⟨h1, _⟩)
      · exact .inr h1
      · exact .inl h1
theorem oneStep_asc (o : List It) (q : It) (h : Asc o) : Asc (oneStep o q) := by
  unfold oneStep
  split
  · exact h
  · rename_i hk
    rw [putL_ins]
    rw [hasK_iff] at hk
    exact ins_asc q o h fun z hz e => hk ⟨z, hz, e⟩
theorem oneRow_asc (r : List It) : ∀ o, Asc o → Asc (oneRow o r) := by
  induction r with
  | nil => intro o h; exact h
  | cons q r ih => intro o h; exact ih _ (oneStep_asc o q h)
theorem oneRow_mem (r : List It) (hr : Asc r) (p : It) : ∀ o, p ∈ oneRow o r ↔ p ∈ o ∨ (p ∈ r ∧ ∀ z ∈ o, z.1 ≠ p.1) := by
  unfold Asc at hr
  induction r with
  | nil => intro o; simp [oneRow]
  | cons q r ih =>
    intro o
    rw [List.pairwise_cons] at hr
    show p ∈ oneRow (oneStep o q) r ↔ _
    rw [ih hr.2 (oneStep o q), oneStep_mem]
    constructor
    · rintro ((h | ⟨rfl, h⟩) | ⟨h1, h2⟩)
      · exact .inl h
      · exact .inr ⟨by simp, h⟩
      · exact .inr ⟨by simp [h1], fun z hz => h2 z ((oneStep_mem o q z).2 (.inl hz))⟩
    · rintro (h | ⟨h1, h2⟩)
      · exact .inl (.inl h)
      · rcases List.mem_cons.1 h1 with rfl | h3
        · exact .inl (.inr ⟨rfl, h2⟩)
        · refine .inr ⟨h3, fun z hz => ?_⟩
          rcases (oneStep_mem o q z).1 hz with h | ⟨rfl, _⟩
          · exact h2 z h
          · have := hr.1 p h3; omega
/-- an item of the first run that has its key -/
def FirstIn : List (List It) → It → Prop
  | [], _ => False
  | r :: ls, p => p ∈ r ∨ ((∀ z ∈ r, z.1 ≠ p.1) ∧ FirstIn ls p)
theorem oneL_gen (ls : List (List It)) (h : ∀ r ∈ ls, Asc r) (p : It) : ∀ o, p ∈ ls.foldl oneRow o ↔ p ∈ o ∨ (FirstIn ls p ∧ ∀ z ∈ o, z.1 ≠ p.1) := by
  induction ls with
  | nil => intro o; simp [FirstIn]
  | cons r ls ih =>
    intro o
    have hr := h r (by simp)
    rw [List.foldl_cons, ih (fun r hr => h r (by simp [hr])) (oneRow o r), oneRow_mem r hr p o]
    constructor
    · rintro ((h1 | ⟨h1, h2⟩) | ⟨h1, h2⟩)
      · exact .inl h1
      · exact .inr ⟨.inl h1, h2⟩
      · have ho : ∀ z ∈ o, z.1 ≠ p.1 := fun z hz => h2 z ((oneRow_mem r hr z o).2 (.inl hz))
        refine .inr ⟨.inr ⟨fun z hz e => ?_, h1⟩, ho⟩
        exact h2 z ((oneRow_mem r hr z o).2 (.inr ⟨hz, fun y hy => by rw [e]; exact ho y hy⟩)) e
    · rintro (h1 | ⟨h1 | ⟨h1, h2⟩, h3⟩)
      · exact .inl (.inl h1)
      · exact .inl (.inr ⟨h1, h3⟩)
      · refine .inr ⟨h2, fun z hz => ?_⟩
        rcases (oneRow_mem r hr z o).1 hz with h | ⟨h, _⟩
        · exact h3 z h
        · exact h1 z h
theorem oneL_mem (ls : List (List It)) (h : ∀ r ∈ ls, Asc r) (p : It) : p ∈ oneL ls ↔ FirstIn ls p := by
  have := oneL_gen ls h p []
  simpa [oneL] using this
theorem oneL_asc_gen (ls : List (List It)) : ∀ o, Asc o → Asc (ls.foldl oneRow o) := by
  induction ls with
  | nil => intro o h; exact h
  | cons r ls ih => intro o h; exact ih _ (oneRow_asc r o h)
theorem oneL_asc (ls : List (List It)) : Asc (oneL ls) := oneL_asc_gen ls [] (by simp [Asc])
theorem firstIn_snoc (l : List (List It)) (r : List It) (p : It) : FirstIn (l ++ [r]) p ↔ FirstIn l p ∨ (p ∈ r ∧ ∀ r' ∈ l, ∀ z ∈ r', z.1 ≠ p.1) := by
  induction l with
  | nil => simp [FirstIn]
  | cons a l ih =>
    rw [List.cons_append]
    unfold FirstIn
    rw [ih]
    constructor
    · rintro (h | ⟨h1, h2 | ⟨h2, h3⟩⟩)
      · exact .inl (.inl h)
      · exact .inl (.inr ⟨h1, h2⟩)
      · exact .inr ⟨h2, fun r' hr' => by
          rcases List.mem_cons.1 hr' with rfl | hr'
          · exact h1
          · exact h3 r' hr'⟩
    · rintro ((h | ⟨h1, h2⟩) | ⟨h1, h2⟩)
      · exact .inl h
      · exact .inr ⟨h1, .inl h2⟩
      · exact .inr ⟨h2 a (by simp), .inr ⟨h1, fun r' hr' => h2 r' (by simp [hr'])⟩⟩
theorem firstIn_mem {ls : List (List It)} {p : It} (h : FirstIn ls p) : ∃ r ∈ ls, p ∈ r := by
  induction ls with
  | nil => exact h.elim
  | cons r ls ih =>
    rcases h with h | ⟨_, h⟩
    · exact ⟨r, by simp, h⟩
    · obtain ⟨r', h1, h2⟩ := ih h
      exact ⟨r', by simp [h1], h2⟩
theorem firstIn_of {ls : List (List It)} {r : List It} {p : It} (hr : r ∈ ls) (hp : p ∈ r) : ∃ q, FirstIn ls q ∧ q.1 = p.1 := by
  induction ls with
  | nil => simp at hr
  | cons a ls ih =>
    by_cases h : ∃ z ∈ a, z.1 = p.1
    · obtain ⟨z, hz, e⟩ := h
      exact ⟨z, .inl hz, e⟩
    · rcases List.mem_cons.1 hr with rfl | hr
      · exact absurd ⟨p, hp, rfl⟩ h
      · obtain ⟨q, h1, h2⟩ := ih hr
        exact ⟨q, .inr ⟨fun z hz e => h ⟨z, hz, by rw [e, h2]⟩, h1⟩, h2⟩
/-! ### What a cursor finds -/
structure Ord (R : Int → Int → Prop) : Prop where
  irr : ∀ a, ¬ R a a
  trans : ∀ a b c, R a b → R b c → R a c
  tot : ∀ a b, a = b ∨ R a b ∨ R b a
/-- the best of a run: what it is -/
def Best (R : Int → Int → Prop) (C : Int → Prop) (r : List It) (c : Option It) : Prop :=
  match c with
  | none => ∀ z ∈ r, ¬ C z.1
  | some q => q ∈ r ∧ C q.1 ∧ ∀ z ∈ r, C z.1 → z = q ∨ R q.1 z.1
theorem set_best {R : Int → Int → Prop} (hR : Ord R) {C : Int → Prop} {ah : Int → Int → Bool} (hah : ∀ a b, ah a b = true ↔ R a b) {p : List It → Int} {ls : List (List It)} (hb : ∀ r ∈ ls, Best R C r (candL p r)) :
    ∀ k, k ≤ ls.length → ((setL p ah (ls.take k)).2 = false → setL p ah (ls.take k) = ((0, 0), false) ∧ ∀ r ∈ ls.take k, ∀ z ∈ r, ¬ C z.1) ∧
      ((setL p ah (ls.take k)).2 = true → FirstIn (ls.take k) (setL p ah (ls.take k)).1 ∧ C (setL p ah (ls.take k)).1.1 ∧ ∀ r ∈ ls.take k, ∀ z ∈ r, C z.1 → z.1 = (setL p ah (ls.take k)).1.1 ∨ R (setL p ah (ls.take k)).1.1 z.1) := by
  intro k
  induction k with
  | zero => intro _; exact ⟨fun _ => ⟨rfl, by simp⟩, fun h => by cases h⟩
  | succ k ih =>
    intro hk
    have hk' : k < ls.length := by omega
    obtain ⟨i1, i2⟩ := ih (by omega)
    rw [setL_take hk']
    have hts : ls.take (k + 1) = ls.take k ++ [ls[k]] := List.take_succ_eq_append_getElem hk'
    rw [hts]
    have hr := hb ls[k] (List.getElem_mem _)
    rw [List.getD_eq_getElem?_getD, List.getElem?_eq_getElem hk']
    simp only [Option.getD_some]
    generalize ls[k] = r at *
    generalize ls.take k = l at *
    generalize setL p ah l = s at *
    cases hc : candL p r with
    | none =>
      rw [hc] at hr
      show ((setStep ah s none).2 = false → _) ∧ _
      have e : setStep ah s none = s := rfl
      rw [e]
      refine ⟨fun h => ⟨(i1 h).1, fun r' hr' => ?_⟩, fun h => ⟨(firstIn_snoc l r s.1).2 (.inl (i2 h).1), (i2 h).2.1, fun r' hr' z hz hC => ?_⟩⟩
      · rcases List.mem_append.1 hr' with h' | h'
        · exact (i1 h).2 r' h'
        · rw [List.mem_singleton.1 h']; exact hr
      · rcases List.mem_append.1 hr' with h' | h'
        · exact (i2 h).2.2 r' h' z hz hC
        · rw [List.mem_singleton.1 h'] at hz; exact absurd hC (hr z hz)
    | some q =>
      rw [hc] at hr
      obtain ⟨q1, q2, q3⟩ := hr
      obtain ⟨⟨sx, sy⟩, sv⟩ := s
      cases sv with
      | false =>
        have e : setStep ah ((sx, sy), false) (some q) = (q, true) := rfl
        rw [e]
        have hno := (i1 rfl).2
        refine ⟨fun h => (by cases h), fun _ => ⟨(firstIn_snoc l r q).2 (.inr ⟨q1, fun r' hr' z hz e => hno r' hr' z hz (by rw [e]; exact q2)⟩), q2, fun r' hr' z hz hC => ?_⟩⟩
        rcases List.mem_append.1 hr' with h' | h'
        · exact absurd hC (hno r' h' z hz)
        · rw [List.mem_singleton.1 h'] at hz
          rcases q3 z hz hC with rfl | h
          · exact .inl rfl
          · exact .inr h
      | true =>
        obtain ⟨j1, j2, j3⟩ := i2 rfl
        by_cases hA : ah q.1 sx = true
        · have e : setStep ah ((sx, sy), true) (some q) = (q, true) := by simp [setStep, hA]
          rw [e]
          have hlt := (hah _ _).1 hA
          refine ⟨fun h => (by cases h), fun _ => ⟨(firstIn_snoc l r q).2 (.inr ⟨q1, fun r' hr' z hz e => ?_⟩), q2, fun r' hr' z hz hC => ?_⟩⟩
          · rcases j3 r' hr' z hz (by rw [e]; exact q2) with h | h
            · rw [e] at h
              have h' : q.1 = sx := h
              rw [h'] at hlt; exact hR.irr _ hlt
            · rw [e] at h
              exact hR.irr _ (hR.trans _ _ _ hlt h)
          · rcases List.mem_append.1 hr' with h' | h'
            · rcases j3 r' h' z hz hC with h | h
              · rw [h]; exact .inr hlt
              · exact .inr (hR.trans _ _ _ hlt h)
            · rw [List.mem_singleton.1 h'] at hz
              rcases q3 z hz hC with rfl | h
              · exact .inl rfl
              · exact .inr h
        · have e : setStep ah ((sx, sy), true) (some q) = ((sx, sy), true) := by simp [setStep, hA]
          rw [e]
          have hge : q.1 = sx ∨ R sx q.1 := by
            rcases hR.tot q.1 sx with h | h | h
            · exact .inl h
            · exact absurd ((hah _ _).2 h) hA
            · exact .inr h
          refine ⟨fun h => (by cases h), fun _ => ⟨(firstIn_snoc l r _).2 (.inl j1), j2, fun r' hr' z hz hC => ?_⟩⟩
          rcases List.mem_append.1 hr' with h' | h'
          · exact j3 r' h' z hz hC
          · rw [List.mem_singleton.1 h'] at hz
            rcases q3 z hz hC with rfl | h
            · exact hge
            · rcases hge with e | e
              · rw [e] at h; exact .inr h
              · exact .inr (hR.trans _ _ _ e h)
/-- what is found in the one list -/
def outF (c : Option It) : It × Bool :=
  match c with
  | none => ((0, 0), false)
  | some q => (q, true)
theorem set_one {R : Int → Int → Prop} (hR : Ord R) {C : Int → Prop} {ah : Int → Int → Bool} (hah : ∀ a b, ah a b = true ↔ R a b) {p : List It → Int} {ls : List (List It)} (hasc : ∀ r ∈ ls, Asc r) (hb : ∀ r ∈ ls, Best R C r (candL p r)) {c : Option It} (hc : Best R C (oneL ls) c) :
    setL p ah ls = outF c := by
  obtain ⟨i1, i2⟩ := set_best hR hah hb ls.length (Nat.le_refl _)
  rw [List.take_length] at i1 i2
  cases hs : (setL p ah ls).2 with
  | false =>
    obtain ⟨e, hno⟩ := i1 hs
    rw [e]
    cases c with
    | none => rfl
    | some q =>
      obtain ⟨q1, q2, _⟩ := hc
      obtain ⟨r, hr, hq⟩ := firstIn_mem ((oneL_mem ls hasc q).1 q1)
      exact absurd q2 (hno r hr q hq)
  | true =>
    obtain ⟨j1, j2, j3⟩ := i2 hs
    have jm := (oneL_mem ls hasc _).2 j1
    cases c with
    | none => exact absurd j2 (hc _ jm)
    | some q =>
      obtain ⟨q1, q2, q3⟩ := hc
      obtain ⟨r, hr, hq⟩ := firstIn_mem ((oneL_mem ls hasc q).1 q1)
      have e : (setL p ah ls).1 = q := by
        rcases q3 _ jm j2 with h | h
        · exact h
        · rcases j3 r hr q hq q2 with h' | h'
          · rw [h'] at h; exact absurd h (hR.irr _)
          · exact absurd (hR.trans _ _ _ h h') (hR.irr _)
      show _ = (q, true)
      rw [← e, ← hs]
theorem ordLt : Ord (fun a b : Int => a < b) := ⟨fun a => by omega, fun a b c => by omega, fun a b => by omega⟩
theorem ordGt : Ord (fun a b : Int => b < a) := ⟨fun a => by omega, fun a b c => by omega, fun a b => by omega⟩
theorem ltB_iff (a b : Int) : ltB a b = true ↔ a < b := by simp [ltB]
theorem gtB_iff (a b : Int) : gtB a b = true ↔ b < a := by simp [gtB]
theorem asc_lt {l : List It} (h : Asc l) {i j : Nat} (hij : i < j) (hj : j < l.length) : (l[i]'(by omega)).1 < l[j].1 := by
  unfold Asc at h
  rw [List.pairwise_iff_getElem] at h
  exact h i j (by omega) hj hij
theorem asc_mem {l : List It} {z : It} (hz : z ∈ l) : ∃ i, ∃ h : i < l.length, l[i] = z := List.mem_iff_getElem.1 hz
/-- the best at a place: all behind it, none in front of it, meet C -/
theorem best_up {C : Int → Prop} {l : List It} (h : Asc l) (c : Nat) (hlo : ∀ i, ∀ hi : i < l.length, i < c → ¬ C l[i].1) (hhi : ∀ hc : c < l.length, C l[c].1) : Best (fun a b : Int => a < b) C l l[c]? := by
  rcases Nat.lt_or_ge c l.length with q | q
  · rw [List.getElem?_eq_getElem q]
    refine ⟨List.getElem_mem _, hhi q, fun z hz hC => ?_⟩
    obtain ⟨i, hi, rfl⟩ := asc_mem hz
    rcases Nat.lt_trichotomy i c with e | e | e
    · exact absurd hC (hlo i hi e)
    · subst e; exact .inl rfl
    · exact .inr (asc_lt h e hi)
  · rw [List.getElem?_eq_none q]
    intro z hz
    obtain ⟨i, hi, rfl⟩ := asc_mem hz
    exact hlo i hi (by omega)
theorem best_down {C : Int → Prop} {l : List It} (h : Asc l) (c : Nat) (hlo : c ≤ l.length) (hhi : ∀ i, ∀ hi : i < l.length, c ≤ i → ¬ C l[i].1) (hC : ∀ hc : 0 < c, C (l[c - 1]'(by omega)).1) : Best (fun a b : Int => b < a) C l (if c = 0 then none else l[c - 1]?) := by
  by_cases q : c = 0
  · rw [if_pos q]
    intro z hz
    obtain ⟨i, hi, rfl⟩ := asc_mem hz
    exact hhi i hi (by omega)
  · rw [if_neg q, List.getElem?_eq_getElem (by omega)]
    refine ⟨List.getElem_mem _, hC (by omega), fun z hz hz2 => ?_⟩
    obtain ⟨i, hi, rfl⟩ := asc_mem hz
    rcases Nat.lt_trichotomy i (c - 1) with e | e | e
    · exact .inr (asc_lt h e (by omega))
    · subst e; exact .inl rfl
    · exact absurd hz2 (hhi i hi (by omega))
theorem ceil_lo {l : List It} {K : Int} {i : Nat} (hi : i < l.length) (h : i < ceilL l K) : l[i].1 < K := by
  have := List.not_of_lt_findIdx h
  simp at this
  omega
theorem ceil_hi {l : List It} {K : Int} (h : ceilL l K < l.length) : K ≤ (l[ceilL l K]).1 := by
  have := List.findIdx_getElem (xs := l) (p := fun x : It => decide (K ≤ x.1)) (w := h)
  exact of_decide_eq_true this
theorem cand_first (l : List It) : candL (fun _ => 0) l = l[0]? := rfl
theorem cand_seek (K : Int) (l : List It) : candL (fun r => (ceilL r K : Nat)) l = l[ceilL l K]? := by
  show (if ((ceilL l K : Nat) : Int) < 0 then none else l[((ceilL l K : Nat) : Int).toNat]?) = _
  rw [if_neg (by omega), Int.toNat_natCast]
theorem cand_next (K : Int) (l : List It) : candL (pNext K) l = l[if hasK l K then ceilL l K + 1 else ceilL l K]? := by
  unfold candL pNext
  cases hasK l K
  · show (if ((ceilL l K : Nat) : Int) < 0 then none else l[((ceilL l K : Nat) : Int).toNat]?) = l[ceilL l K]?
    rw [if_neg (by omega), Int.toNat_natCast]
  · show (if ((ceilL l K : Nat) : Int) + 1 < 0 then none else l[(((ceilL l K : Nat) : Int) + 1).toNat]?) = l[ceilL l K + 1]?
    rw [if_neg (by omega), show ((ceilL l K : Int) + 1).toNat = ceilL l K + 1 from by omega]
theorem cand_last (l : List It) : candL (fun r => (r.length : Int) - 1) l = if l.length = 0 then none else l[l.length - 1]? := by
  show (if (l.length : Int) - 1 < 0 then none else l[((l.length : Int) - 1).toNat]?) = _
  by_cases h : l.length = 0
  · rw [if_pos (by omega), if_pos h]
  · rw [if_neg (by omega), if_neg h, show ((l.length : Int) - 1).toNat = l.length - 1 from by omega]
theorem cand_prev (K : Int) (l : List It) : candL (fun r => (ceilL r K : Nat) - 1) l = if ceilL l K = 0 then none else l[ceilL l K - 1]? := by
  show (if ((ceilL l K : Nat) : Int) - 1 < 0 then none else l[(((ceilL l K : Nat) : Int) - 1).toNat]?) = _
  by_cases h : ceilL l K = 0
  · rw [if_pos (by omega), if_pos h]
  · rw [if_neg (by omega), if_neg h, show (((ceilL l K : Nat) : Int) - 1).toNat = ceilL l K - 1 from by omega]
theorem best_first {l : List It} (h : Asc l) : Best (fun a b : Int => a < b) (fun _ => True) l (candL (fun _ => 0) l) := by
  rw [cand_first]
  exact best_up h 0 (fun i _ h => by omega) (fun _ => trivial)
theorem best_seek {l : List It} (h : Asc l) (K : Int) : Best (fun a b : Int => a < b) (fun a => K ≤ a) l (candL (fun r => (ceilL r K : Nat)) l) := by
  rw [cand_seek]
  exact best_up h _ (fun i hi hc => by have := ceil_lo hi hc; omega) ceil_hi
theorem has_ceil {l : List It} (h : Asc l) (K : Int) : hasK l K = true ↔ ∃ hc : ceilL l K < l.length, (l[ceilL l K]).1 = K := by
  rw [hasK_iff]
  constructor
  · rintro ⟨z, hz, e⟩
    obtain ⟨i, hi, rfl⟩ := asc_mem hz
    have hle : ¬ i < ceilL l K := fun q => by have := ceil_lo hi q; omega
    have hc : ceilL l K < l.length := by omega
    refine ⟨hc, ?_⟩
    have h1 := ceil_hi hc
    rcases Nat.lt_or_ge (ceilL l K) i with q | q
    · have := asc_lt h q hi; omega
    · have : i = ceilL l K := by omega
      subst this; exact e
  · rintro ⟨hc, e⟩
    exact ⟨_, List.getElem_mem _, e⟩
theorem best_next {l : List It} (h : Asc l) (K : Int) : Best (fun a b : Int => a < b) (fun a => K < a) l (candL (pNext K) l) := by
  rw [cand_next]
  by_cases q : hasK l K = true
  · obtain ⟨hc, e⟩ := (has_ceil h K).1 q
    rw [if_pos q]
    refine best_up h _ (fun i hi hic => ?_) (fun hc2 => ?_)
    · rcases Nat.lt_or_ge i (ceilL l K) with r | r
      · have := ceil_lo hi r; omega
      · have : i = ceilL l K := by omega
        subst this; omega
    · have := asc_lt h (show ceilL l K < ceilL l K + 1 by omega) hc2; omega
  · rw [if_neg q]
    refine best_up h _ (fun i hi hic => by have := ceil_lo hi hic; omega) (fun hc => ?_)
    have h1 := ceil_hi hc
    have h2 : (l[ceilL l K]).1 ≠ K := fun e => q ((has_ceil h K).2 ⟨hc, e⟩)
    omega
theorem best_last {l : List It} (h : Asc l) : Best (fun a b : Int => b < a) (fun _ => True) l (candL (fun r => (r.length : Int) - 1) l) := by
  rw [cand_last]
  exact best_down h _ (Nat.le_refl _) (fun i hi q => by omega) (fun _ => trivial)
theorem best_prev {l : List It} (h : Asc l) (K : Int) : Best (fun a b : Int => b < a) (fun a => a < K) l (candL (fun r => (ceilL r K : Nat) - 1) l) := by
  rw [cand_prev]
  refine best_down h _ (ceilL_le l K) (fun i hi q => ?_) (fun hc => ?_)
  · have hc : ceilL l K < l.length := by omega
    have h1 := ceil_hi hc
    rcases Nat.lt_or_ge (ceilL l K) i with r | r
    · have := asc_lt h r hi; omega
    · have : i = ceilL l K := by omega
      subst this; omega
  · exact ceil_lo _ (by omega)
theorem curFirst_one {ls : List (List It)} (h : ∀ r ∈ ls, Asc r) : curFirst ls = outF (oneL ls)[0]? := by
  rw [← cand_first]
  exact set_one ordLt ltB_iff h (fun r hr => best_first (h r hr)) (best_first (oneL_asc ls))
theorem curLast_one {ls : List (List It)} (h : ∀ r ∈ ls, Asc r) : curLast ls = outF (if (oneL ls).length = 0 then none else (oneL ls)[(oneL ls).length - 1]?) := by
  rw [← cand_last]
  exact set_one ordGt gtB_iff h (fun r hr => best_last (h r hr)) (best_last (oneL_asc ls))
theorem curSeek_one {ls : List (List It)} (h : ∀ r ∈ ls, Asc r) (K : Int) : curSeek ls K = outF (oneL ls)[ceilL (oneL ls) K]? := by
  rw [← cand_seek]
  exact set_one ordLt ltB_iff h (fun r hr => best_seek (h r hr) K) (best_seek (oneL_asc ls) K)
theorem ceil_self {l : List It} (h : Asc l) {t : Nat} (ht : t < l.length) : ceilL l l[t].1 = t ∧ hasK l l[t].1 = true := by
  have h2 : hasK l l[t].1 = true := (hasK_iff _ _).2 ⟨l[t], List.getElem_mem _, rfl⟩
  obtain ⟨hc, e⟩ := (has_ceil h _).1 h2
  refine ⟨?_, h2⟩
  rcases Nat.lt_trichotomy (ceilL l l[t].1) t with q | q | q
  · have := asc_lt h q ht; omega
  · exact q
  · have := asc_lt h q hc; omega
theorem curNext_one {ls : List (List It)} (h : ∀ r ∈ ls, Asc r) {t : Nat} (ht : t < (oneL ls).length) : curNext ls (oneL ls)[t].1 = outF (oneL ls)[t + 1]? := by
  have e := set_one ordLt ltB_iff h (fun r hr => best_next (h r hr) (oneL ls)[t].1) (best_next (oneL_asc ls) (oneL ls)[t].1)
  obtain ⟨e1, e2⟩ := ceil_self (oneL_asc ls) ht
  rw [cand_next, e2, if_pos rfl, e1] at e
  exact e
theorem curPrev_one {ls : List (List It)} (h : ∀ r ∈ ls, Asc r) {t : Nat} (ht : t < (oneL ls).length) : curPrev ls (oneL ls)[t].1 = outF (if t = 0 then none else (oneL ls)[t - 1]?) := by
  have e := set_one ordGt gtB_iff h (fun r hr => best_prev (h r hr) (oneL ls)[t].1) (best_prev (oneL_asc ls) (oneL ls)[t].1)
  obtain ⟨e1, e2⟩ := ceil_self (oneL_asc ls) ht
  rw [cand_prev, e1] at e
  exact e
end Go.Proofs.Ytcgkpbhoiaeolaa.Tithe
