/- What compact.Keep keeps, by its marks: plain laws. -/
import Derived.Test.YtkjfjcigmmooiaaEntKeepsC
import Derived.Test.YtkjfjcigmmooiaaEntGone
namespace Go.Proofs.Ytkjfjcigmmooiaa.Tithe
open Go.RowKit Go.Sort Go.Shelf
set_option linter.unusedVariables false
set_option maxRecDepth 100000
def marksE (l : List En) (zs : List Int) : List Mk := (List.range l.length).map fun j => (l.getD j En.nil, k0 l zs j)
def keepL (l : List En) (zs : List Int) (dp : ByteArray → Bool) : List En := keptM (finK dp (marksE l zs))
theorem keepTo_eq (l : List En) (zs : List Int) (dp : ByteArray → Bool) {most : Int} (h : rightE l most = true) : keepTo (groupsL l) zs dp (groupsL l).length = keepL l zs dp := by
  have hk := keep_plain zs dp (groupsL l) l [] (isGr_groups l) (right_ord h) (fun a ha => by cases ha) (fun x hx => (right_s h hx).1)
  simp only [List.nil_append, List.length_nil, Nat.zero_add] at hk
  unfold keepL marksE
  rw [hk]
  unfold keepTo
  rw [List.take_length]
theorem marksE_fst (l : List En) (zs : List Int) : (marksE l zs).map (·.1) = l := by
  apply List.ext_getElem?
  intro i
  unfold marksE
  rw [List.map_map, List.getElem?_map]
  by_cases hi : i < l.length
  · rw [List.getElem?_range hi, List.getElem?_eq_getElem hi]
    show some (l.getD i En.nil) = _
    rw [List.getD_eq_getElem?_getD, List.getElem?_eq_getElem hi]; rfl
  · rw [List.getElem?_eq_none (by simp; omega), List.getElem?_eq_none (by omega)]; rfl
theorem keptM_mem {A : List Mk} {x : En} : x ∈ keptM A ↔ (x, true) ∈ A := by
  unfold keptM
  constructor
  · intro h
    obtain ⟨m, hm, rfl⟩ := List.mem_map.1 h
    obtain ⟨h1, h2⟩ := List.mem_filter.1 hm
    obtain ⟨a, b⟩ := m
    dsimp only at h2
    rw [h2] at h1
    exact h1
  · intro h
    exact List.mem_map.2 ⟨(x, true), List.mem_filter.2 ⟨h, rfl⟩, rfl⟩
theorem keepL_sub {l : List En} {zs : List Int} {dp : ByteArray → Bool} {x : En} (h : x ∈ keepL l zs dp) : x ∈ l := by
  have h1 := keptM_mem.1 h
  have : x ∈ (finK dp (marksE l zs)).map (·.1) := List.mem_map.2 ⟨_, h1, rfl⟩
  rwa [finK_fst, marksE_fst] at this
/-! ### more marks: more is kept -/
def leM : List Mk → List Mk → Prop
  | [], [] => True
  | a :: A, b :: B => a.1 = b.1 ∧ (a.2 = true → b.2 = true) ∧ leM A B
  | _, _ => False
theorem leM_any {p : En → Bool} : ∀ {A B : List Mk}, leM A B → (A.any fun y => p y.1 && y.2) = true → (B.any fun y => p y.1 && y.2) = true
  | [], [], _, h => by simp at h
  | a :: A, b :: B, ⟨h1, h2, h3⟩, h => by
    rw [List.any_cons, Bool.or_eq_true] at h ⊢
    rcases h with h | h
    · left
      rw [Bool.and_eq_true] at h ⊢
      rw [← h1]
      exact ⟨h.1, h2 h.2⟩
    · right
      exact leM_any h3 h
theorem finK_le (dp : ByteArray → Bool) : ∀ {A B : List Mk}, leM A B → leM (finK dp A) (finK dp B)
  | [], [], _ => trivial
  | a :: A, b :: B, ⟨h1, h2, h3⟩ => by
    have ih := finK_le dp h3
    refine ⟨h1, fun h => ?_, ih⟩
    change (a.2 && !(decide (a.1.key.k = 2) && (!((finK dp A).any fun y => decide (y.1.key.u = a.1.key.u) && y.2) && !dp a.1.key.u))) = true at h
    show (b.2 && !(decide (b.1.key.k = 2) && (!((finK dp B).any fun y => decide (y.1.key.u = b.1.key.u) && y.2) && !dp b.1.key.u))) = true
    rw [← h1]
    have hm := leM_any (p := fun y => decide (y.key.u = a.1.key.u)) ih
    rw [Bool.and_eq_true] at h ⊢
    refine ⟨h2 h.1, ?_⟩
    have h4 := h.2
    revert h4 hm
    cases (finK dp A).any fun y => decide (y.1.key.u = a.1.key.u) && y.2 <;> cases (finK dp B).any fun y => decide (y.1.key.u = a.1.key.u) && y.2 <;> cases decide (a.1.key.k = 2) <;> cases dp a.1.key.u <;> simp
theorem leM_mem : ∀ {A B : List Mk}, leM A B → ∀ x, x ∈ keptM A → x ∈ keptM B
  | [], [], _, x, h => h
  | a :: A, b :: B, ⟨h1, h2, h3⟩, x, h => by
    rw [keptM_mem] at h ⊢
    rcases List.mem_cons.1 h with h | h
    · have hb : b.1 = x := by rw [← h1, ← h]
      have hb2 : b.2 = true := h2 (by rw [← h])
      exact List.mem_cons.2 (.inl (by rw [← hb, ← hb2]))
    · exact List.mem_cons_of_mem _ (keptM_mem.1 (leM_mem h3 x (keptM_mem.2 h)))
theorem leM_map {f g : Nat → Mk} : ∀ L : List Nat, (∀ j ∈ L, (f j).1 = (g j).1 ∧ ((f j).2 = true → (g j).2 = true)) → leM (L.map f) (L.map g)
  | [], _ => trivial
  | j :: L, h => ⟨(h j List.mem_cons_self).1, (h j List.mem_cons_self).2, leM_map L fun i hi => h i (List.mem_cons_of_mem _ hi)⟩
theorem k0_more {l : List En} {zs : List Int} (m : Int) {j : Nat} (hk : k0 l zs j = true) : k0 l (zs ++ [m]) j = true := by
  unfold k0 at hk ⊢
  rw [List.any_append]
  rw [Bool.or_eq_true] at *
  rcases hk with hk | hk
  · exact .inl hk
  · exact .inr (by rw [hk]; rfl)
theorem marks_more (l : List En) (zs : List Int) (m : Int) : leM (marksE l zs) (marksE l (zs ++ [m])) := leM_map (f := fun j => (l.getD j En.nil, k0 l zs j)) (g := fun j => (l.getD j En.nil, k0 l (zs ++ [m]) j)) _ fun j _ => ⟨rfl, fun hk => k0_more m hk⟩
theorem keepL_more {l : List En} {zs : List Int} {dp : ByteArray → Bool} (m : Int) {x : En} (h : x ∈ keepL l zs dp) : x ∈ keepL l (zs ++ [m]) dp := leM_mem (finK_le dp (marks_more l zs m)) x h
theorem inK_mem {l : List En} {x : En} (h : x ∈ l) : inK (l.map (·.key)) x.key = true := by
  unfold inK
  rw [List.any_eq_true]
  exact ⟨x.key, List.mem_map.2 ⟨x, h, rfl⟩, eqK_iff.2 rfl⟩
theorem gone_nil {l l' : List En} (h : ∀ x ∈ l, x ∈ l') : goneE l l' = [] := by
  unfold goneE leftE
  rw [List.filter_eq_nil_iff]
  intro x hx
  have := inK_mem (h x hx)
  simp [this]
theorem good_okK {x : Ky} (h : okK x = true) : GoodK x := by
  unfold okK at h
  simp only [Bool.and_eq_true, decide_eq_true_eq] at h
  obtain ⟨⟨⟨⟨⟨h1, h2⟩, h3⟩, h4⟩, h5⟩, h6⟩ := h
  refine ⟨by unfold maxLen; omega, ?_, ?_⟩
  · exact WalkArith.wf_i64 (by omega)
  · exact WalkArith.wf_i64 (by omega)
theorem right_good {l : List En} {most : Int} (h : rightE l most = true) {x : En} (hx : x ∈ l) : GoodK x.key := by
  obtain ⟨k, hk⟩ := List.mem_iff_getElem?.1 hx
  exact good_okK (right_at h hk).2.1
theorem keepL_le (l : List En) (zs : List Int) (dp : ByteArray → Bool) : (keepL l zs dp).length ≤ l.length := by
  unfold keepL keptM
  rw [List.length_map]
  refine Nat.le_trans (List.length_filter_le _ _) ?_
  rw [finK_len]
  unfold marksE
  rw [List.length_map, List.length_range]
  exact Nat.le_refl _
/-! ### rows of numbers, appended to -/
theorem intInfo1 : (Try.prog.info? 3).map (fun i => (i.zero, i.size, i.bytes)) = some (some (.int .i64 0), 1, 8) := by kernel_rfl
abbrev OwnZs (W : World) (base : Nat) (v : Value) (l : List Int) : Prop := W.ownsRow base 3 1 v l.length (flat intC l)
theorem ints_one (l : List Int) : ∀ u ∈ flat intC l, u.oneCell' = true := by
  intro u hu
  simp only [flat, List.mem_flatMap] at hu
  obtain ⟨r, hr, hu⟩ := hu
  simp [intC] at hu
  rw [hu]; rfl
theorem app_zs (W : World) (base : Nat) (v vx : Value) (l m : List Int) (h : OwnZs W base v l) (hx : IsZs W vx m) (hl : l.length + m.length ≤ 1000000) (hb : base ≤ W.heap.size) :
    ∃ v' w2, (Builtin.append_ #[51, 51] 51 #[v, vx]).run Try.prog W = .ok v' w2 ∧ OwnZs w2 base v' (l ++ m) ∧ W.grownBy w2 v.ownBlock := by
  obtain ⟨i0, hi0, hz0, hz1, hz2⟩ := info_partsL intInfo1
  obtain ⟨ad, c, rfl, h2, h3, h4⟩ := id hx
  cases ad with
  | none =>
    have hm : m = [] := by
      rcases Nat.eq_zero_or_pos m.length with q | q
      · exact List.eq_nil_of_length_eq_zero q
      · obtain ⟨_, _, e, _⟩ := h4 (by rintro rfl; simp at q); cases e
    subst hm
    exact ⟨v, W, run_append_none base 51 51 3 i0 1 Try.underlying51 hi0 v l.length _ h c, by rw [List.append_nil]; exact h, World.grownBy.refl _ _⟩
  | some ad =>
    obtain ⟨v', w2, hrun, r1, r2, -⟩ := run_append_own (P := Try.prog) W base 51 51 3 i0 (.int .i64 0) 1 8 Try.underlying51 hi0 hz0 hz1 hz2 rfl (by decide) v l.length (flat intC l) h ad m.length c (flat intC m) (flat_length intC_len m) (fun j u hj => by
      have hpos : m ≠ [] := by rintro rfl; simp [flat] at hj
      obtain ⟨b, off, e, -⟩ := h4 hpos
      injection e with e
      subst e
      exact hx.news intC_len j u hj) (ints_one m) (by unfold maxLen; omega) (by omega) hb
    refine ⟨v', w2, hrun, ?_, r2⟩
    unfold OwnZs
    rw [List.length_append, flat_append]
    exact r1
theorem zs_blk {W : World} {b : Nat} {z : Int} (h : W.heap[b]? = some (.cells #[.int .i64 z] 3 (0, 0))) : IsZs W (.slice (some ⟨b, 0, none⟩) 1 1) [z] :=
  isSl_own (e := 3) (base := 0) intC_len (own_of h (Nat.zero_le _) (Nat.le_refl 1) (by unfold maxLen; omega) rfl rfl)
end Go.Proofs.Ytkjfjcigmmooiaa.Tithe
