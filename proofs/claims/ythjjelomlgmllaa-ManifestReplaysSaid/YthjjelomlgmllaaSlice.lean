/- Slices whose elements are rows of plain cells: general, no program in sight. -/
import Derived.Test.YthjjelomlgmllaaRows
import Derived.WalkKit
import Derived.ProofKit
import Derived.OpenShut
import Derived.Lib.Hide
import Derived.Outline
import Derived.OwnWalk
import Derived.Deep.AppendLies
import Derived.Deep.QuietTactic
import Derived.Lib.QuietBelow
import Derived.BigQuiet
import Derived.WalkLawsBesides
namespace Go.Proofs.Ythjjelomlgmllaa.Tithe
open Go.RowKit Go.Sort
set_option linter.unusedVariables false
section
variable {α : Type}
def flat (enc : α → List Value) (l : List α) : List Value := l.flatMap enc
theorem flat_append (enc : α → List Value) (l m : List α) : flat enc (l ++ m) = flat enc l ++ flat enc m := by simp [flat]
theorem flat_one (enc : α → List Value) (x : α) : flat enc [x] = enc x := by simp [flat]
theorem flat_length {enc : α → List Value} {sz : Nat} (he : ∀ x, (enc x).length = sz) (l : List α) : (flat enc l).length = l.length * sz := by
  induction l with
  | nil => simp [flat]
  | cons x l ih =>
    show (enc x ++ flat enc l).length = _
    rw [List.length_append, ih, he, List.length_cons, Nat.add_mul]; omega
theorem flat_get {enc : α → List Value} {sz : Nat} (he : ∀ x, (enc x).length = sz) : ∀ (l : List α) (i : Nat) (x : α), l[i]? = some x → ∀ (j : Nat) (y : Value), (enc x)[j]? = some y → (flat enc l)[i * sz + j]? = some y
  | [], i, x, h, j, y, hj => by simp at h
  | z :: l, 0, x, h, j, y, hj => by
    simp only [List.getElem?_cons_zero, Option.some.injEq] at h
    subst h
    show (enc z ++ flat enc l)[0 * sz + j]? = _
    rw [Nat.zero_mul, Nat.zero_add, List.getElem?_append_left (List.getElem?_eq_some_iff.1 hj).1]
    exact hj
  | z :: l, i + 1, x, h, j, y, hj => by
    simp only [List.getElem?_cons_succ] at h
    have := flat_get he l i x h j y hj
    show (enc z ++ flat enc l)[(i + 1) * sz + j]? = _
    rw [List.getElem?_append_right (by rw [he, Nat.add_mul]; omega), he, show (i + 1) * sz + j - sz = i * sz + j by rw [Nat.add_mul]; omega]
    exact this
theorem flat_take {enc : α → List Value} {l : List α} {k : Nat} {x : α} (h : l[k]? = some x) : flat enc (l.take (k + 1)) = flat enc (l.take k) ++ enc x := by
  rw [List.take_add_one, h, flat_append]; simp [flat]
/-- a slice whose elements, at their cells, read as a list -/
def IsSl (enc : α → List Value) (sz : Nat) (w : World) (v : Value) (l : List α) : Prop :=
  ∃ a c, v = .slice a l.length c ∧ l.length ≤ c ∧ c ≤ maxLen ∧ (l ≠ [] → ∃ b off, a = some ⟨b, off, none⟩ ∧ ∀ i x, l[i]? = some x → ∀ j y, (enc x)[j]? = some y → w.cell? ⟨b, off + i * sz + j, none⟩ = some y)
theorem IsSl.below {enc : α → List Value} {sz : Nat} {w w' : World} {v : Value} {l : List α} (h : IsSl enc sz w v l) (hb : Below w.heap.size w w') : IsSl enc sz w' v l := by
  obtain ⟨a, c, e, h1, h2, h3⟩ := h
  refine ⟨a, c, e, h1, h2, fun hne => ?_⟩
  obtain ⟨b, off, ha, hc⟩ := h3 hne
  refine ⟨b, off, ha, fun i x hi j y hj => ?_⟩
  have k := hc i x hi j y hj
  exact (hb.cell (block_lt_of_cell k)).trans k
theorem IsSl.at {enc : α → List Value} {sz : Nat} {w : World} {a : Option Addr} {n c : Nat} {l : List α} (h : IsSl enc sz w (.slice a n c) l) : n = l.length ∧ n ≤ c ∧ c ≤ 9223372036854775807 ∧ (0 < n → ∃ b off, a = some ⟨b, off, none⟩ ∧ ∀ i x, l[i]? = some x → ∀ j y, (enc x)[j]? = some y → w.cell? ⟨b, off + i * sz + j, none⟩ = some y) := by
  obtain ⟨a', c', e, h1, h2, h3⟩ := h
  injection e with e1 e2 e3
  subst e1 e2 e3
  exact ⟨rfl, h1, by unfold maxLen at h2; omega, fun hp => h3 (by rintro rfl; simp at hp)⟩
theorem isSl_nil (enc : α → List Value) (sz : Nat) (w : World) (a : Option Addr) (c : Nat) (hc : c ≤ maxLen) : IsSl enc sz w (.slice a 0 c) [] := ⟨a, c, rfl, by simp, hc, fun h => absurd rfl h⟩
theorem plain_add' (b off j : Nat) : (⟨b, off, none⟩ : Addr).add j = ⟨b, off + j, none⟩ := by unfold Addr.add; split <;> simp_all
theorem isSl_own {enc : α → List Value} {sz : Nat} (he : ∀ x, (enc x).length = sz) {w : World} {base : Nat} {e : TypeId} {v : Value} {l : List α} (h : w.ownsRow base e sz v l.length (flat enc l)) : IsSl enc sz w v l := by
  rcases Nat.eq_zero_or_pos l.length with z | z
  · obtain rfl : l = [] := List.eq_nil_of_length_eq_zero z
    rcases h.2 with ⟨rfl, _⟩ | ⟨g, cap, cur, rfl, _, _, _, hm, _⟩
    · exact isSl_nil _ _ _ _ _ (by simp)
    · exact isSl_nil _ _ _ _ _ hm
  · obtain ⟨g, cap, rfl, hb, hlt⟩ := h.form z
    have hc := h.cells (g := g) rfl
    obtain ⟨_, h2⟩ := h
    have hcm : l.length ≤ cap ∧ cap ≤ maxLen := by
      rcases h2 with ⟨h, _⟩ | ⟨g', cap', cur, h, _, _, hn, hm, _⟩
      · cases h
      · injection h with _ _ h; subst h; exact ⟨hn, hm⟩
    refine ⟨_, _, rfl, hcm.1, hcm.2, fun _ => ⟨_, _, rfl, fun i x hi j y hj => ?_⟩⟩
    have c1 := hc _ _ (flat_get he l i x hi j y hj)
    rw [plain_add'] at c1
    rw [show 0 + i * sz + j = 0 + (i * sz + j) by omega]
    exact c1
theorem IsSl.take {enc : α → List Value} {sz : Nat} {w : World} {a : Option Addr} {n c : Nat} {l : List α} (h : IsSl enc sz w (.slice a n c) l) (k : Nat) (hk : k ≤ n) : IsSl enc sz w (.slice a k c) (l.take k) := by
  obtain ⟨hn, hc, hm, hx⟩ := h.at
  refine ⟨a, c, by rw [List.length_take, ← hn, Nat.min_eq_left hk], by rw [List.length_take]; omega, by unfold maxLen; omega, fun hne => ?_⟩
  have hp : 0 < n := by
    rcases Nat.eq_zero_or_pos n with z | z
    · exfalso; apply hne; rw [List.eq_nil_of_length_eq_zero (l := l) (by omega)]; simp
    · exact z
  obtain ⟨b, off, ha, hc⟩ := hx hp
  refine ⟨b, off, ha, fun i x hi j y hj => ?_⟩
  rw [List.getElem?_take] at hi
  split at hi
  · exact hc i x hi j y hj
  · cases hi
theorem IsSl.drop {enc : α → List Value} {sz : Nat} {w : World} {b off : Nat} {n c : Nat} {l : List α} (h : IsSl enc sz w (.slice (some ⟨b, off, none⟩) n c) l) (k : Nat) (hk : k ≤ n) (m : Nat) (hm : m = c - k) : IsSl enc sz w (.slice (some ⟨b, off + k * sz, none⟩) (n - k) m) (l.drop k) := by
  obtain ⟨hn, hc, hx2, hx⟩ := h.at
  subst hm
  refine ⟨_, _, by rw [List.length_drop, ← hn], by rw [List.length_drop]; omega, by unfold maxLen; omega, fun hne => ?_⟩
  have hp : 0 < n := by
    rcases Nat.eq_zero_or_pos n with z | z
    · exfalso; apply hne; rw [List.eq_nil_of_length_eq_zero (l := l) (by omega)]; simp
    · exact z
  obtain ⟨b', off', ha, hc⟩ := hx hp
  injection ha with ha
  injection ha with ha1 ha2
  subst ha1 ha2
  refine ⟨_, _, rfl, fun i x hi j y hj => ?_⟩
  rw [List.getElem?_drop] at hi
  have := hc (k + i) x hi j y hj
  rw [Nat.add_mul] at this
  rw [show off + k * sz + i * sz + j = off + (k * sz + i * sz) + j by omega]
  exact this
theorem isSl_lit {enc : α → List Value} {sz : Nat} (he : ∀ x, (enc x).length = sz) {W : World} (l : List α) (cs : Array Value) (t : TypeId) (g : Nat) (hg : g = W.heap.size) (hcs : cs.toList = flat enc l) (n : Nat) (hn : n = l.length) (hm : n ≤ maxLen) : IsSl enc sz (W.alloc (.cells cs t)) (.slice (some ⟨g, 0, none⟩) n n) l := by
  subst hg hn
  refine ⟨_, _, rfl, Nat.le_refl _, hm, fun _ => ⟨_, _, rfl, fun i x hi j y hj => ?_⟩⟩
  rw [World.cell?_alloc_mark]
  have h1 := flat_get he l i x hi j y hj
  rw [← hcs] at h1
  simp only [Array.getElem?_toList] at h1
  rw [show 0 + i * sz + j = i * sz + j by omega]
  simpa using h1
theorem newsL {W : World} (xs : List Value) (cs : Array Value) (hcs : cs.toList = xs) (t : TypeId) (g : Nat) (hg : g = W.heap.size) : ∀ (j : Nat) (z : Value), xs[j]? = some z → (W.alloc (.cells cs t)).cell? ((⟨g, 0, none⟩ : Addr).add j) = some z := by
  intro j z hj
  subst hg hcs
  rw [plain_add', World.cell?_alloc_mark]
  simpa using hj
theorem IsSl.news {enc : α → List Value} {sz : Nat} (he : ∀ x, (enc x).length = sz) {w : World} {b off n c : Nat} {l : List α} (h : IsSl enc sz w (.slice (some ⟨b, off, none⟩) n c) l) : ∀ (j : Nat) (z : Value), (flat enc l)[j]? = some z → w.cell? ((⟨b, off, none⟩ : Addr).add j) = some z := by
  obtain ⟨hn, hc, hm, hx⟩ := h.at
  intro j z hj
  have hlt := (List.getElem?_eq_some_iff.1 hj).1
  rw [flat_length he] at hlt
  have hsz : 0 < sz := by
    rcases Nat.eq_zero_or_pos sz with q | q
    · subst q; simp at hlt
    · exact q
  have hi : j / sz < l.length := by rw [Nat.div_lt_iff_lt_mul hsz]; exact hlt
  have hj2 : j % sz < sz := Nat.mod_lt _ hsz
  obtain ⟨b', off', ha, hc⟩ := hx (by rw [hn]; exact Nat.lt_of_le_of_lt (Nat.zero_le _) hi)
  injection ha with ha
  injection ha with ha1 ha2
  subst ha1 ha2
  have hxx := List.getElem?_eq_getElem hi
  have hyy := List.getElem?_eq_getElem (l := enc l[j / sz]) (i := j % sz) (by rw [he]; exact hj2)
  have h1 := hc _ _ hxx _ _ hyy
  have h2 := flat_get he l _ _ hxx _ _ hyy
  have e : j / sz * sz + j % sz = j := Nat.div_add_mod' j sz
  rw [e, hj] at h2
  rw [Nat.add_assoc, e] at h1
  rw [plain_add', h1, h2]
end
theorem own_below {W W' : World} {base : Nat} {e : TypeId} {size n : Nat} {x : Value} {xs : List Value} (h : W.ownsRow base e size x n xs) (hb : Below W.heap.size W W') : W'.ownsRow base e size x n xs := by
  refine ⟨h.1, ?_⟩
  rcases h.2 with h0 | ⟨g, cap, cur, hv, hbs, hh, r⟩
  · exact .inl h0
  · exact .inr ⟨g, cap, cur, hv, hbs, (hb.block g (Array.getElem?_eq_some_iff.1 hh).1).trans hh, r⟩
theorem own_mono {W : World} {base b2 : Nat} {e : TypeId} {size n : Nat} {x : Value} {xs : List Value} (h : W.ownsRow base e size x n xs) (hb : b2 ≤ base) : W.ownsRow b2 e size x n xs := by
  refine ⟨h.1, ?_⟩
  rcases h.2 with h0 | ⟨g, cap, cur, hv, hbs, r⟩
  · exact .inl h0
  · exact .inr ⟨g, cap, cur, hv, Nat.le_trans hb hbs, r⟩
theorem own_slice {W : World} {base : Nat} {e : TypeId} {size n : Nat} {x : Value} {xs : List Value} (h : W.ownsRow base e size x n xs) : ∃ a c, x = .slice a n c := by
  rcases h.2 with ⟨rfl, rfl⟩ | ⟨g, cap, cur, rfl, _⟩
  · exact ⟨_, _, rfl⟩
  · exact ⟨_, _, rfl⟩
theorem grow_own {w W w1 : World} {B base : Nat} {e : TypeId} {size n : Nat} {v : Value} {xs : List Value} (hb : Below B w W) (h : W.ownsRow base e size v n xs) (hg : W.grownBy w1 v.ownBlock) (h1 : B ≤ base) (h2 : B ≤ W.heap.size) : Below B w w1 :=
  hb.grown hg h2 fun k hk => Nat.le_trans h1 (h.lt k hk).1
theorem own_far {W W' : World} {row : Option Nat} {base : Nat} {e : TypeId} {size n : Nat} {x : Value} {xs : List Value} (h : W.ownsRow base e size x n xs) (hg : W.grownBy W' row) (hr : ∀ r, row = some r → r < base) : W'.ownsRow base e size x n xs := by
  refine ⟨h.1, ?_⟩
  rcases h.2 with h0 | ⟨g, cap, cur, hv, hb, hh, r⟩
  · exact .inl h0
  · refine .inr ⟨g, cap, cur, hv, hb, (hg.block g (Array.getElem?_eq_some_iff.1 hh).1 (fun e => ?_)).trans hh, r⟩
    have := hr g e.symm
    omega
theorem below_drewN {B : Nat} {a w : World} (h : Below B a w) (n : Nat) : Below B a (w.drewN n) := h.trans ⟨rfl, rfl, rfl, Nat.le_refl _, fun _ _ => rfl⟩
end Go.Proofs.Ythjjelomlgmllaa.Tithe
