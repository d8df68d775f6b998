/- CompactMetas: the plain law: what is put into entries is read back from them. -/
import Derived.Test.YtkjfjcigmmooiaaMeta
import Derived.Test.YtkjfjcigmmooiaaCompactCuts
namespace Go.Proofs.Ytkjfjcigmmooiaa.Tithe
open Go.RowKit Go.Sort
set_option linter.unusedVariables false
set_option maxRecDepth 100000
theorem rdN_enc : ∀ (F G i acc n : Nat) (rest : List Nat), n < 2 ^ (7 * F) → F ≤ G → 1 ≤ F → (n = 0 → i = 0) → rdN F i acc (encF G n ++ rest) = (acc + n * 2 ^ (7 * i), rest, false)
  | 0, _, _, _, _, _, _, _, h, _ => by omega
  | F + 1, 0, _, _, _, _, _, h, _, _ => by omega
  | F + 1, G + 1, i, acc, n, rest, hn, hG, _, hz => by
    unfold encF
    by_cases h : 127 < n
    · rw [if_pos h]
      have hF : 1 ≤ F := by
        rcases Nat.eq_zero_or_pos F with q | q
        · subst q; simp at hn; omega
        · exact q
      show rdN (F + 1) i acc ((n % 128 + 128) :: (encF G (n / 128) ++ rest)) = _
      unfold rdN
      rw [if_neg (by omega)]
      have e : 2 ^ (7 * (F + 1)) = 2 ^ (7 * F) * 128 := by rw [Nat.mul_add, Nat.mul_one, Nat.pow_add]
      rw [e] at hn
      rw [rdN_enc F G (i + 1) _ (n / 128) rest (Nat.div_lt_of_lt_mul (by rw [Nat.mul_comm]; exact hn)) (by omega) hF (by intro q; omega)]
      have e2 : 2 ^ (7 * (i + 1)) = 128 * 2 ^ (7 * i) := by rw [Nat.mul_add, Nat.mul_one, Nat.pow_add, Nat.mul_comm]
      rw [e2, show (n % 128 + 128) % 128 = n % 128 by omega]
      congr 1
      generalize 2 ^ (7 * i) = p
      have e3 : n / 128 * (128 * p) = (n / 128 * 128) * p := by rw [Nat.mul_assoc]
      rw [e3, Nat.add_assoc, ← Nat.add_mul, show n % 128 + n / 128 * 128 = n by omega]
    · rw [if_neg h]
      show rdN (F + 1) i acc (n :: rest) = _
      unfold rdN
      rw [if_pos (by omega), if_neg (by rintro ⟨q, r⟩; have := hz q; omega), show n % 128 = n by omega]
theorem numR_enc (n : Nat) (rest : List Nat) (h : n < 9223372036854775808) : numR (encN n ++ rest) = (n, rest, false) := by
  unfold numR encN
  rw [rdN_enc 9 9 0 0 n rest h (Nat.le_refl _) (by omega) (fun _ => rfl)]
  simp
theorem parR_text (z a l : Nat) (h : okP z a l = true) : parR (textL z a l) = ((z, a, l), true) := by
  have hb : z < 64 ∧ a ≤ 65536 ∧ l ≤ 65536 := by
    have := h
    unfold okP at this
    simp only [Bool.and_eq_true, decide_eq_true_eq] at this
    omega
  obtain ⟨hz, ha, hl⟩ := hb
  have e1 : numB false (encN z ++ encN a ++ encN l) = (z, encN a ++ encN l, false) := by
    show numR _ = _
    rw [List.append_assoc]; exact numR_enc z _ (by omega)
  have e2 : numB false (encN a ++ encN l) = (a, encN l, false) := numR_enc a _ (by omega)
  have e3 : numB false (encN l) = (l, [], false) := by
    have := numR_enc l [] (by omega)
    rw [List.append_nil] at this; exact this
  unfold parR textL
  rw [e1]; dsimp only
  rw [e2]; dsimp only
  rw [e3]; dsimp only
  rw [h]; rfl
/-- a pointer -/
abbrev Pt := Int × Int × Int
def Pt.nil : Pt := (0, 0, 0)
def ptC (p : Pt) : List Value := [.int .i64 p.1, .int .i64 p.2.1, .int .i64 p.2.2]
theorem ptC_len (p : Pt) : (ptC p).length = 3 := rfl
abbrev IsPt (w : World) (v : Value) (l : List Pt) : Prop := IsSl ptC 3 w v l
def okT (p : Pt) : Bool := okP p.1 p.2.1 p.2.2
def ptText (p : Pt) : ByteArray := strOf (textL p.1.toNat p.2.1.toNat p.2.2.toNat)
def noneB : ByteArray := ⟨#[110, 111, 110, 101]⟩
def modE (p : Pt) (x : En) : En := if okT p = true then ⟨x.key, ptText p⟩ else if x.key.k = 3 then ⟨x.key, noneB⟩ else x
def modTo (l : List En) (ps : List Pt) (k : Nat) : List En := (List.range l.length).map fun i => if i < k then modE (ps.getD i Pt.nil) (l.getD i En.nil) else l.getD i En.nil
def sumTo (l : List En) (ps : List Pt) : Nat → Nat → Nat
  | 0 => fun _ => 0
  | k + 1 => if okT (ps.getD k Pt.nil) = true ∧ (l.getD k En.nil).key.k = 3 then addZ (sumTo l ps k) (ps.getD k Pt.nil).1.toNat (rsz (ps.getD k Pt.nil).2.2.toNat) else sumTo l ps k
theorem sumTo_succ (l : List En) (ps : List Pt) (k : Nat) : sumTo l ps (k + 1) = if okT (ps.getD k Pt.nil) = true ∧ (l.getD k En.nil).key.k = 3 then addZ (sumTo l ps k) (ps.getD k Pt.nil).1.toNat (rsz (ps.getD k Pt.nil).2.2.toNat) else sumTo l ps k := rfl
theorem modE_key (p : Pt) (x : En) : (modE p x).key = x.key := by
  unfold modE; split
  · rfl
  · split <;> rfl
theorem modTo_len (l : List En) (ps : List Pt) (k : Nat) : (modTo l ps k).length = l.length := by unfold modTo; simp
theorem modTo_zero (l : List En) (ps : List Pt) : modTo l ps 0 = l := by
  unfold modTo
  apply List.ext_getElem
  · simp
  · intro i h1 h2
    simp [List.getElem?_eq_getElem h2]
theorem modTo_get (l : List En) (ps : List Pt) (k i : Nat) (h : i < l.length) : (modTo l ps k)[i]? = some (if i < k then modE (ps.getD i Pt.nil) (l.getD i En.nil) else l.getD i En.nil) := by
  unfold modTo; simp [h]
theorem modTo_set (l : List En) (ps : List Pt) (k : Nat) (h : k < l.length) : (modTo l ps k).set k (modE (ps.getD k Pt.nil) (l.getD k En.nil)) = modTo l ps (k + 1) := by
  apply List.ext_getElem?
  intro i
  rw [List.getElem?_set, modTo_len]
  by_cases hi : i < l.length
  · rw [modTo_get l ps (k + 1) i hi]
    by_cases e : k = i
    · subst e; rw [if_pos rfl, if_pos h, if_pos (Nat.lt_succ_self _)]
    · rw [if_neg e, modTo_get l ps k i hi]
      by_cases q : i < k
      · rw [if_pos q, if_pos (by omega)]
      · rw [if_neg q, if_neg (by omega)]
  · have n1 : (modTo l ps k)[i]? = none := List.getElem?_eq_none (by rw [modTo_len]; omega)
    have n2 : (modTo l ps (k + 1))[i]? = none := List.getElem?_eq_none (by rw [modTo_len]; omega)
    rw [n1, n2]
    split
    · exfalso; omega
    · rfl
theorem modTo_skip (l : List En) (ps : List Pt) (k : Nat) (h : k < l.length) (h2 : modE (ps.getD k Pt.nil) (l.getD k En.nil) = l.getD k En.nil) : modTo l ps (k + 1) = modTo l ps k := by
  rw [← modTo_set l ps k h, h2]
  apply List.ext_getElem?
  intro i
  rw [List.getElem?_set]
  split
  · next e =>
    subst e
    rw [if_pos (by rw [modTo_len]; exact h), modTo_get l ps k k h, if_neg (Nat.lt_irrefl _)]
  · rfl
theorem okT_nat {p : Pt} (h : okT p = true) : okP (p.1.toNat : Int) (p.2.1.toNat : Int) (p.2.2.toNat : Int) = true ∧ (p.1.toNat : Int) = p.1 ∧ (p.2.1.toNat : Int) = p.2.1 ∧ (p.2.2.toNat : Int) = p.2.2 ∧ p.1.toNat < 64 ∧ p.2.1.toNat ≤ 65536 ∧ p.2.2.toNat ≤ 65536 ∧ 1 ≤ p.2.2.toNat := by
  have h2 := h
  unfold okT okP at h2
  simp only [Bool.and_eq_true, decide_eq_true_eq] at h2
  have e1 : (p.1.toNat : Int) = p.1 := by omega
  have e2 : (p.2.1.toNat : Int) = p.2.1 := by omega
  have e3 : (p.2.2.toNat : Int) = p.2.2 := by omega
  refine ⟨?_, e1, e2, e3, by omega, by omega, by omega, by omega⟩
  rw [e1, e2, e3]; exact h
theorem par_mod_yes {p : Pt} (x : En) (h : okT p = true) : parOf (modE p x) = ((p.1.toNat, p.2.1.toNat, p.2.2.toNat), true) := by
  obtain ⟨h1, -, -, -, b1, b2, b3, -⟩ := okT_nat h
  unfold modE; rw [if_pos h]
  unfold parOf ptText
  dsimp only
  rw [bytesOf_strOf (textL_byte _ _ _ (by omega) (by omega) (by omega))]
  exact parR_text _ _ _ h1
theorem par_none : (parR (bytesOf noneB)).2 = false := by rfl
theorem sums_eq (l : List En) (ps : List Pt) : ∀ k, k ≤ l.length → bytesTo (modTo l ps l.length) k = sumTo l ps k
  | 0, _ => rfl
  | k + 1, h => by
    have ih := sums_eq l ps k (by omega)
    have hg : (modTo l ps l.length).getD k En.nil = modE (ps.getD k Pt.nil) (l.getD k En.nil) := by
      rw [List.getD_eq_getElem?_getD, modTo_get l ps _ k (by omega), if_pos (by omega)]; rfl
    show addE (bytesTo (modTo l ps l.length) k) ((modTo l ps l.length).getD k En.nil) = _
    rw [hg, ih]
    rw [sumTo_succ]
    unfold addE
    rw [modE_key]
    by_cases ho : okT (ps.getD k Pt.nil) = true
    · rw [par_mod_yes _ ho]
      by_cases hk : (l.getD k En.nil).key.k = 3
      · rw [if_pos ⟨hk, rfl⟩, if_pos ⟨ho, hk⟩]
      · rw [if_neg (fun q => hk q.1), if_neg (fun q => hk q.2)]
    · rw [if_neg (c := okT (ps.getD k Pt.nil) = true ∧ (l.getD k En.nil).key.k = 3) (fun q => ho q.1)]
      by_cases hk : (l.getD k En.nil).key.k = 3
      · have e : modE (ps.getD k Pt.nil) (l.getD k En.nil) = ⟨(l.getD k En.nil).key, noneB⟩ := by unfold modE; rw [if_neg ho, if_pos hk]
        rw [e, if_neg]
        rintro ⟨-, q⟩
        have : (parOf ⟨(l.getD k En.nil).key, noneB⟩).2 = false := par_none
        rw [this] at q; cases q
      · rw [if_neg (fun q => hk q.1)]
theorem sumTo_le (l : List En) (ps : List Pt) : ∀ k z, sumTo l ps k z ≤ k * 65543
  | 0, z => Nat.zero_le _
  | k + 1, z => by
    have ih := sumTo_le l ps k z
    rw [sumTo_succ]
    split
    · next h =>
      obtain ⟨-, -, -, -, -, -, b3, -⟩ := okT_nat h.1
      have h2 : rsz (ps.getD k Pt.nil).2.2.toNat ≤ 65543 := rsz_le _ (by omega)
      have h3 := addZ_le (sumTo l ps k) (ps.getD k Pt.nil).1.toNat _ z h2
      generalize addZ (sumTo l ps k) (ps.getD k Pt.nil).1.toNat (rsz (ps.getD k Pt.nil).2.2.toNat) z = q at *
      generalize sumTo l ps k z = q2 at *
      omega
    · exact Nat.le_trans ih (Nat.mul_le_mul_right _ (Nat.le_succ k))
theorem ptText_size {p : Pt} (h : okT p = true) : (ptText p).size ≤ 1000 := by
  unfold ptText strOf textL
  show ((List.map UInt8.ofNat _).toArray).size ≤ _
  simp only [List.size_toArray, List.length_map, List.length_append]
  have h1 := (encF_len 9 p.1.toNat).2
  have h2 := (encF_len 9 p.2.1.toNat).2
  have h3 := (encF_len 9 p.2.2.toNat).2
  unfold encN
  omega
theorem modE_size {p : Pt} {x : En} (h : x.val.size ≤ 300) : (modE p x).val.size ≤ 1000000 := by
  unfold modE
  split
  · next q => have := ptText_size q; show (ptText p).size ≤ _; omega
  · split
    · show noneB.size ≤ _
      decide
    · omega
theorem modTo_size {l : List En} (ps : List Pt) (k : Nat) (h : ∀ x ∈ l, x.val.size ≤ 300) : ∀ x ∈ modTo l ps k, x.val.size ≤ 1000000 := by
  intro x hx
  obtain ⟨i, hi⟩ := List.getElem?_of_mem hx
  have hl := (List.getElem?_eq_some_iff.1 hi).1
  rw [modTo_len] at hl
  rw [modTo_get l ps k i hl] at hi
  have hm : l.getD i En.nil ∈ l := by rw [List.getD_eq_getElem?_getD, List.getElem?_eq_getElem hl]; exact List.getElem_mem hl
  injection hi with hi
  subst hi
  split
  · exact modE_size (h _ hm)
  · have := h _ hm; omega
/-! ### the refs -/
theorem refsTo_mono (f : Nat → Nat) (z : Nat) : ∀ d, ∃ t, refsTo f (z + d) = refsTo f z ++ t
  | 0 => ⟨[], by simp⟩
  | d + 1 => by
    obtain ⟨t, ht⟩ := refsTo_mono f z d
    show ∃ t, (if 0 < f (z + d) then refsTo f (z + d) ++ [(z + d, f (z + d))] else refsTo f (z + d)) = _
    split
    · exact ⟨t ++ [(z + d, f (z + d))], by rw [ht, List.append_assoc]⟩
    · exact ⟨t, ht⟩
theorem refsTo_at (f : Nat → Nat) {z : Nat} (hz : z < 64) (h : 0 < f z) : (refsTo f 64)[(refsTo f z).length]? = some (z, f z) ∧ (refsTo f z).length < (refsTo f 64).length ∧ (refsTo f (z + 1)).length = (refsTo f z).length + 1 := by
  obtain ⟨t, ht⟩ := refsTo_mono f (z + 1) (64 - (z + 1))
  rw [show z + 1 + (64 - (z + 1)) = 64 by omega] at ht
  have h1 : refsTo f (z + 1) = refsTo f z ++ [(z, f z)] := by
    show (if 0 < f z then _ else _) = _
    rw [if_pos h]
  rw [ht, h1, List.append_assoc, List.getElem?_append_right (Nat.le_refl _), Nat.sub_self]
  refine ⟨rfl, ?_, ?_⟩
  · simp only [List.length_append, List.length_cons, List.length_nil]; omega
  · simp only [List.length_append, List.length_cons, List.length_nil]
theorem refsTo_skip (f : Nat → Nat) {z : Nat} (h : f z = 0) : refsTo f (z + 1) = refsTo f z := by
  show (if 0 < f z then _ else _) = _
  rw [if_neg (by omega)]
def castR (r : Nat × Nat) : Int × Int := (r.1, r.2)
theorem refsTo_ok (f : Nat → Nat) (hf : ∀ z, f z ≤ 1073741824) : ∀ z, z ≤ 64 → ∀ i r, (refsTo f z)[i]? = some r → r.1 < z ∧ 1 ≤ r.2 ∧ r.2 ≤ 1073741824 ∧ (i = 0 ∨ ∃ q, (refsTo f z)[i - 1]? = some q ∧ q.1 < r.1)
  | 0, _, i, r, h => by simp [refsTo] at h
  | z + 1, hz, i, r, h => by
    by_cases hp : 0 < f z
    · have h1 : refsTo f (z + 1) = refsTo f z ++ [(z, f z)] := by
        show (if 0 < f z then _ else _) = _
        rw [if_pos hp]
      rw [h1] at h ⊢
      rw [List.getElem?_append] at h
      split at h
      · next hi =>
        obtain ⟨a, b, c, d⟩ := refsTo_ok f hf z (by omega) i r h
        refine ⟨by omega, b, c, ?_⟩
        rcases d with d | ⟨q, d1, d2⟩
        · exact .inl d
        · exact .inr ⟨q, by rw [List.getElem?_append_left (List.getElem?_eq_some_iff.1 d1).1]; exact d1, d2⟩
      · next hi =>
        have hi2 : i - (refsTo f z).length = 0 := by
          have := (List.getElem?_eq_some_iff.1 h).1
          simp at this; omega
        rw [hi2] at h
        injection h with h
        subst h
        refine ⟨by simp, hp, hf z, ?_⟩
        by_cases h0 : i = 0
        · exact .inl h0
        · right
          have hil : i = (refsTo f z).length := by omega
          have hlt : i - 1 < (refsTo f z).length := by omega
          have hq := List.getElem?_eq_getElem hlt
          refine ⟨_, by rw [List.getElem?_append_left hlt]; exact hq, ?_⟩
          exact (refsTo_ok f hf z (by omega) _ _ hq).1
    · rw [refsTo_skip f (by omega)] at h ⊢
      obtain ⟨a, b, c, d⟩ := refsTo_ok f hf z (by omega) i r h
      exact ⟨by omega, b, c, d⟩
theorem refsOk_of (l : List (Int × Int)) (n : Nat) (h : ∀ i, i < n → refOk l i = true) : refsOk l n = true := by
  induction n with
  | zero => rfl
  | succ k ih =>
    show (refsOk l k && refOk l k) = true
    rw [ih (fun i hi => h i (by omega)), h k (by omega)]; rfl
theorem refs_ok (f : Nat → Nat) (hf : ∀ z, f z ≤ 1073741824) : refsOk ((refsTo f 64).map castR) ((refsTo f 64).map castR).length = true := by
  apply refsOk_of
  intro i hi
  rw [List.length_map] at hi
  have hr := List.getElem?_eq_getElem hi
  obtain ⟨a, b, c, d⟩ := refsTo_ok f hf 64 (Nat.le_refl _) i _ hr
  have hg : ((refsTo f 64).map castR).getD i (0, 0) = castR ((refsTo f 64)[i]) := by
    rw [List.getD_eq_getElem?_getD, List.getElem?_map, hr]; rfl
  unfold refOk zoneOk
  rw [hg]
  generalize (refsTo f 64)[i] = r at *
  rcases d with d | ⟨q, d1, d2⟩
  · unfold castR; simp [d]; omega
  · have hg2 : ((refsTo f 64).map castR).getD (i - 1) (0, 0) = castR q := by
      rw [List.getD_eq_getElem?_getD, List.getElem?_map, d1]; rfl
    rw [hg2]
    clear hg hg2 hr d1
    unfold castR
    simp
    omega
theorem flat_cast (l : List (Nat × Nat)) : flat rfC (l.map castR) = flat refC l := by
  induction l with
  | nil => rfl
  | cons x l ih =>
    show rfC (castR x) ++ flat rfC (l.map castR) = refC x ++ flat refC l
    rw [ih]; rfl
theorem cmpI_zero {x y : Int} (h : cmpI x y = 0) : x = y := by
  unfold cmpI at h
  split at h
  · omega
  · split at h <;> omega
theorem cmpK_zero {a b : Ky} (h : cmpK a b = 0) : a = b := by
  unfold cmpK at h
  split at h
  · next q => exact absurd h q
  · next q =>
    have e1 := (cmpB_zero _ _).1 (Decidable.not_not.1 q)
    split at h
    · next q2 => exact absurd h q2
    · next q2 =>
      have e2 := cmpI_zero (Decidable.not_not.1 q2)
      have e3 := cmpI_zero h
      obtain ⟨u, s, k⟩ := a
      obtain ⟨u', s', k'⟩ := b
      simp only at e1 e2 e3
      subst e1 e2 e3
      rfl
theorem right_cmp {l : List En} {most : Int} (h : rightE l most = true) : ∀ (d i : Nat) (x y : En), l[i]? = some x → l[i + d]? = some y → cmpK x.key y.key ≤ 0
  | 0, i, x, y, hx, hy => by
    rw [Nat.add_zero, hx] at hy
    injection hy with hy
    rw [hy]
    unfold cmpK
    rw [cmpB_self]
    simp [cmpI]
  | 1, i, x, y, hx, hy => by
    have h2 := (right_at h hy).2.2
    rw [show i + 1 - 1 = i by omega, List.getD_eq_getElem?_getD, hx] at h2
    rcases h2 with h2 | h2
    · omega
    · exact Int.le_of_lt h2
  | d + 2, i, x, y, hx, hy => by
    have hlt := (List.getElem?_eq_some_iff.1 hy).1
    have hz := List.getElem?_eq_getElem (l := l) (i := i + (d + 1)) (by omega)
    have h1 := right_cmp h (d + 1) i x _ hx hz
    have h2 := (right_at h hy).2.2
    rw [show i + (d + 2) - 1 = i + (d + 1) by omega, List.getD_eq_getElem?_getD, hz] at h2
    rcases h2 with h2 | h2
    · omega
    · have h3 : cmpK (l[i + (d + 1)]).key y.key < 0 := h2
      by_cases q : cmpK x.key (l[i + (d + 1)]).key < 0
      · exact Int.le_of_lt (cmpK_trans q h3)
      · have q0 : cmpK x.key (l[i + (d + 1)]).key = 0 := by omega
        have e : x.key = (l[i + (d + 1)]).key := cmpK_zero q0
        rw [e]; exact Int.le_of_lt h3
end Go.Proofs.Ytkjfjcigmmooiaa.Tithe
