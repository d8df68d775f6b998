/- A record's bytes: plain. -/
import Derived.Test.YthjjelomlgmllaaManChk
import Derived.Test.YthjjelomlgmllaaManList
namespace Go.Proofs.Ythjjelomlgmllaa.Tithe
open Go.RowKit Go.Sort Go.Shelf
def encRf (r : Int × Int) : List Nat := encN r.1.toNat ++ encN r.2.toNat
def txtB (l : List Nat) : List Nat := encN l.length ++ l
def encP (p : Int × Mt) : List Nat := (((((encN p.1.toNat ++ encN p.2.z.toNat) ++ encN p.2.n.toNat) ++ txtB (encK p.2.a)) ++ txtB (encK p.2.b)) ++ encN p.2.refs.length) ++ p.2.refs.flatMap encRf
def encR (r : Rc) : List Nat := ((((encN (if r.wh then 1 else 0) ++ encN r.seq.toNat) ++ encZs r.logs) ++ encZs r.drop) ++ encN r.add.length) ++ r.add.flatMap fun p => encP (p.1, p.2.1)
theorem encF_few : ∀ (f n j : Nat), n < 2 ^ (7 * (j + 1)) → (encF f n).length ≤ j + 1
  | 0, n, j, h => by show ([n] : List Nat).length ≤ j + 1; simp
  | f + 1, n, j, h => by
    show (if 127 < n then (n % 128 + 128) :: encF f (n / 128) else [n]).length ≤ j + 1
    by_cases q : 127 < n
    · rw [if_pos q]
      cases j with
      | zero => exfalso; simp at h; omega
      | succ j =>
        have := encF_few f (n / 128) j (by
          have e : 2 ^ (7 * (j + 1 + 1)) = 2 ^ (7 * (j + 1)) * 128 := by rw [Nat.mul_succ 7 (j + 1), Nat.pow_add]
          rw [e] at h
          exact Nat.div_lt_of_lt_mul (by rw [Nat.mul_comm]; exact h))
        rw [List.length_cons]; omega
    · rw [if_neg q]; simp
theorem encN_1 {n : Nat} (h : n < 128) : (encN n).length ≤ 1 := encF_few 9 n 0 (by simpa using h)
theorem encN_5 {n : Nat} (h : n ≤ 1073741824) : (encN n).length ≤ 5 := encF_few 9 n 4 (by omega)
theorem encN_pos (n : Nat) : 0 < (encN n).length := by
  unfold encN encF
  split <;> simp
theorem refsOk_at {l : List (Int × Int)} : ∀ {n k : Nat}, refsOk l n = true → k < n → refOk l k = true
  | n + 1, k, h, hk => by
    unfold refsOk at h
    simp only [Bool.and_eq_true] at h
    by_cases e : k = n
    · rw [e]; exact h.2
    · exact refsOk_at h.1 (by omega)
theorem refOk_get {l : List (Int × Int)} {k : Nat} (h : refOk l k = true) : 0 ≤ (l.getD k (0, 0)).1 ∧ (l.getD k (0, 0)).1 < 64 ∧ 1 ≤ (l.getD k (0, 0)).2 ∧ (l.getD k (0, 0)).2 ≤ 1073741824 ∧ (k = 0 ∨ (l.getD (k - 1) (0, 0)).1 < (l.getD k (0, 0)).1) := by
  unfold refOk zoneOk at h
  simp only [Bool.and_eq_true, Bool.or_eq_true, decide_eq_true_eq] at h
  obtain ⟨⟨⟨⟨h1, h2⟩, h3⟩, h4⟩, h5⟩ := h
  exact ⟨h1, h2, h3, h4, h5⟩
theorem refs_rise {l : List (Int × Int)} {n : Nat} (h : refsOk l n = true) : ∀ k, k < n → (k : Int) ≤ (l.getD k (0, 0)).1
  | 0, hk => (refOk_get (refsOk_at h hk)).1
  | k + 1, hk => by
    have h1 := refs_rise h k (by omega)
    have h2 := (refOk_get (refsOk_at h hk)).2.2.2.2
    rcases h2 with h2 | h2
    · omega
    · rw [Nat.add_sub_cancel] at h2; omega
theorem refs_few {l : List (Int × Int)} {n : Nat} (h : refsOk l n = true) : n ≤ 64 := by
  rcases Nat.eq_zero_or_pos n with q | q
  · omega
  · have h1 := refs_rise h (n - 1) (by omega)
    have h2 := (refOk_get (refsOk_at h (show n - 1 < n by omega))).2.1
    omega
theorem refs_mem {l : List (Int × Int)} (h : refsOk l l.length = true) {r : Int × Int} (hr : r ∈ l) : 0 ≤ r.1 ∧ r.1 < 64 ∧ 1 ≤ r.2 ∧ r.2 ≤ 1073741824 := by
  obtain ⟨k, hk, rfl⟩ := List.getElem_of_mem hr
  have := refOk_get (refsOk_at h hk)
  have e : l.getD k (0, 0) = l[k] := by rw [List.getD_eq_getElem?_getD, List.getElem?_eq_getElem hk]; rfl
  rw [e] at this
  exact ⟨this.1, this.2.1, this.2.2.1, this.2.2.2.1⟩
theorem encRf_le {r : Int × Int} (h : 0 ≤ r.1 ∧ r.1 < 64 ∧ 1 ≤ r.2 ∧ r.2 ≤ 1073741824) : (encRf r).length ≤ 6 := by
  unfold encRf
  have h1 := encN_1 (n := r.1.toNat) (by omega)
  have h2 := encN_5 (n := r.2.toNat) (by omega)
  rw [List.length_append]; omega
theorem flat_le {α : Type} {f : α → List Nat} {b : Nat} : ∀ {l : List α}, (∀ x ∈ l, (f x).length ≤ b) → (l.flatMap f).length ≤ b * l.length
  | [], _ => by simp
  | x :: t, hf => by
    have := flat_le (l := t) (fun y hy => hf y (List.mem_cons_of_mem _ hy))
    have := hf x (List.mem_cons_self ..)
    rw [List.flatMap_cons, List.length_append, List.length_cons, Nat.mul_succ]
    omega
theorem plsOk_at {l : List (Int × Mr)} : ∀ {n k : Nat}, plsOk l n = true → k < n → plOk (l.getD k (0, Mr.nil)) = true
  | n + 1, k, h, hk => by
    unfold plsOk at h
    simp only [Bool.and_eq_true] at h
    by_cases e : k = n
    · rw [e]; exact h.2
    · exact plsOk_at h.1 (by omega)
theorem plsOk_mem {l : List (Int × Mr)} (h : plsOk l l.length = true) {p : Int × Mr} (hp : p ∈ l) : plOk p = true := by
  obtain ⟨k, hk, rfl⟩ := List.getElem_of_mem hp
  have := plsOk_at h hk
  rwa [show l.getD k (0, Mr.nil) = l[k] by rw [List.getD_eq_getElem?_getD, List.getElem?_eq_getElem hk]; rfl] at this
/-- what is known of a right place -/
structure PlIs (p : Int × Mt) : Prop where
  l0 : 0 ≤ p.1
  l4 : p.1 < 4
  z0 : 0 ≤ p.2.z
  z64 : p.2.z < 64
  n1 : 1 ≤ p.2.n
  n2 : p.2.n ≤ 65536
  ka : okK p.2.a = true
  kb : okK p.2.b = true
  rs : ∀ r ∈ p.2.refs, 0 ≤ r.1 ∧ r.1 < 64 ∧ 1 ≤ r.2 ∧ r.2 ≤ 1073741824
  rn : p.2.refs.length ≤ 64
theorem plOk_is {p : Int × Mr} (h : plOk p = true) : PlIs (p.1, p.2.1) := by
  unfold plOk metaOk headOk zoneOk at h
  simp only [Bool.and_eq_true, decide_eq_true_eq] at h
  obtain ⟨⟨h1, h2⟩, ⟨⟨⟨⟨⟨⟨h3, h4⟩, h5⟩, h6⟩, h7⟩, h8⟩, h9⟩⟩ := h
  exact ⟨h1, h2, h3.1, h3.2, h4, h5, h6, h7, fun r hr => refs_mem h9 hr, refs_few h9⟩
theorem okK_size {k : Ky} (h : okK k = true) : k.u.size ≤ 64 := by
  unfold okK at h
  simp only [Bool.and_eq_true, decide_eq_true_eq] at h
  omega
theorem txtK_le {k : Ky} (h : okK k = true) : (txtB (encK k)).length ≤ 147 := by
  unfold txtB
  have h1 := encN_le (encK k).length
  have h2 := encK_len k
  have h3 := okK_size h
  rw [List.length_append]; omega
theorem encP_le {p : Int × Mt} (h : PlIs p) : (encP p).length ≤ 718 := by
  unfold encP
  have h1 := encN_le p.1.toNat
  have h2 := encN_le p.2.z.toNat
  have h3 := encN_le p.2.n.toNat
  have h4 := txtK_le h.ka
  have h5 := txtK_le h.kb
  have h6 := encN_le p.2.refs.length
  have h7 := flat_le (f := encRf) (b := 6) (l := p.2.refs) (fun r hr => encRf_le (h.rs r hr))
  have h8 := h.rn
  simp only [List.length_append]
  omega
/-- what is known of a right record -/
structure RecIs (r : Rc) : Prop where
  s0 : 0 ≤ r.seq
  s1 : r.seq ≤ 1099511627776
  lz : ∀ z ∈ r.logs, 0 ≤ z ∧ z < 64
  ln : r.logs.length ≤ 64
  dz : ∀ z ∈ r.drop, 0 ≤ z ∧ z < 64
  dn : r.drop.length ≤ 64
  an : r.add.length ≤ 64
  ap : ∀ p ∈ r.add, PlIs (p.1, p.2.1)
theorem zsOk_is {l : List Int} (h : zsOk l = true) : (∀ z ∈ l, 0 ≤ z ∧ z < 64) ∧ l.length ≤ 64 := by
  unfold zsOk at h
  simp only [Bool.and_eq_true, decide_eq_true_eq, List.all_eq_true] at h
  refine ⟨fun z hz => ?_, h.1⟩
  have := h.2 z hz
  unfold zoneOk at this
  simpa using this
theorem recOk_is {r : Rc} (h : recOk r = true) : RecIs r := by
  unfold recOk recHead seqOk at h
  simp only [Bool.and_eq_true, decide_eq_true_eq] at h
  obtain ⟨⟨⟨⟨⟨⟨h1, h2⟩, h3⟩, h4⟩, h5⟩, h6⟩, h7⟩ := h
  exact ⟨h1, h2, (zsOk_is h3).1, (zsOk_is h3).2, (zsOk_is h4).1, (zsOk_is h4).2, h5, fun p hp => plOk_is (plsOk_mem h7 hp)⟩
theorem encZs_le {l : List Int} (h : l.length ≤ 64) : (encZs l).length ≤ 650 := by
  unfold encZs
  have h1 := encN_le l.length
  have h2 := flatMap_le (fun z : Int => encN z.toNat) 10 (fun z => encN_le _) l
  rw [List.length_append]; omega
theorem adds_le {l : List (Int × Mr)} (h : ∀ p ∈ l, PlIs (p.1, p.2.1)) : (l.flatMap fun p => encP (p.1, p.2.1)).length ≤ 718 * l.length := flat_le (fun p hp => encP_le (h p hp))
theorem encR_le {r : Rc} (h : RecIs r) : (encR r).length ≤ 48000 := by
  unfold encR
  have h1 := encN_le (if r.wh then 1 else 0)
  have h2 := encN_le r.seq.toNat
  have h3 := encZs_le h.ln
  have h4 := encZs_le h.dn
  have h5 := encN_le r.add.length
  have h6 := adds_le h.ap
  have h7 := h.an
  simp only [List.length_append]
  omega
theorem encR_pos (r : Rc) : 0 < (encR r).length := by
  unfold encR
  have := encN_pos (if r.wh then 1 else 0)
  simp only [List.length_append]
  omega
end Go.Proofs.Ythjjelomlgmllaa.Tithe
