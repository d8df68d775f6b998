/- Plain facts on filters of bits: no program in sight. -/
import Derived.Test.YtkdipflmmlnbpaaDoorCoreSum
namespace Go.Proofs.YtkdipflmmlnbpaaDoor.Tithe
/-- the places of some probes -/
def placeAt (c d n i : Nat) : Nat := (c + i * d) % n
def places (c d n p : Nat) : List Nat := (List.range p).map (placeAt c d n)
def keyC (key : List Nat) : Nat := moreOf 0 key
def keyD (key : List Nat) : Nat := maskOf (moreOf 0 key) ||| 1
def keyPlaces (key : List Nat) (n p : Nat) : List Nat := places (keyC key) (keyD key) n p
theorem places_lt {c d n p : Nat} (hn : 0 < n) : ∀ i ∈ places c d n p, i < n := by
  intro i hi
  unfold places at hi
  simp only [List.mem_map] at hi
  obtain ⟨k, _, rfl⟩ := hi
  exact Nat.mod_lt _ hn
theorem places_succ (c d n k : Nat) : places c d n (k + 1) = places c d n k ++ [placeAt c d n k] := by simp [places, List.range_succ]
/-- a bit set, a bit asked -/
def setB (bs : List Nat) (i : Nat) : List Nat := bs.set (i / 8) (bs.getD (i / 8) 0 ||| 2 ^ (i % 8))
def testB (bs : List Nat) (i : Nat) : Bool := (bs.getD (i / 8) 0).testBit (i % 8)
def addL (bs L : List Nat) : List Nat := L.foldl setB bs
def hasL (bs L : List Nat) : Bool := L.all (testB bs)
theorem setB_length (bs : List Nat) (i : Nat) : (setB bs i).length = bs.length := by simp [setB]
theorem addL_length (L : List Nat) : ∀ bs, (addL bs L).length = bs.length := by
  induction L with
  | nil => intro bs; rfl
  | cons i L ih => intro bs; show (addL (setB bs i) L).length = _; rw [ih, setB_length]
theorem getD_byte {bs : List Nat} (h : ∀ x ∈ bs, x < 256) (i : Nat) : bs.getD i 0 < 256 := by
  rw [List.getD_eq_getElem?_getD]
  rcases Nat.lt_or_ge i bs.length with q | q
  · rw [List.getElem?_eq_getElem q]; exact h _ (List.getElem_mem _)
  · rw [List.getElem?_eq_none q]; decide
theorem or_bit_lt {x i : Nat} (h : x < 256) : x ||| 2 ^ (i % 8) < 256 := by
  have : 2 ^ (i % 8) < 2 ^ 8 := Nat.pow_lt_pow_right (by omega) (by omega)
  exact Nat.or_lt_two_pow (n := 8) h this
theorem setB_byte {bs : List Nat} (h : ∀ x ∈ bs, x < 256) (i : Nat) : ∀ x ∈ setB bs i, x < 256 := by
  intro x hx
  rcases List.mem_or_eq_of_mem_set hx with e | e
  · exact h x e
  · rw [e]; exact or_bit_lt (getD_byte h _)
theorem addL_byte (L : List Nat) : ∀ bs, (∀ x ∈ bs, x < 256) → ∀ x ∈ addL bs L, x < 256 := by
  induction L with
  | nil => intro bs h; exact h
  | cons i L ih => intro bs h; exact ih _ (setB_byte h i)
theorem testB_setB (bs : List Nat) (i j : Nat) (hi : i / 8 < bs.length) : testB (setB bs i) j = (decide (j = i) || testB bs j) := by
  unfold testB setB
  simp only [List.getD_eq_getElem?_getD, List.getElem?_set]
  by_cases e : i / 8 = j / 8
  · rw [if_pos e]
    have hj : j / 8 < bs.length := by omega
    rw [if_pos hi, ← e]
    simp only [Option.getD_some, Nat.testBit_or, Nat.testBit_two_pow]
    by_cases q : i % 8 = j % 8
    · have : j = i := by omega
      subst this
      simp
    · have : j ≠ i := by rintro rfl; exact q rfl
      simp [q, this]
  · rw [if_neg e]
    have : j ≠ i := by rintro rfl; exact e rfl
    simp [this]
theorem testB_addL (L : List Nat) : ∀ (bs : List Nat) (j : Nat), (∀ i ∈ L, i < 8 * bs.length) → testB (addL bs L) j = (decide (j ∈ L) || testB bs j) := by
  induction L with
  | nil => intro bs j _; simp [addL]
  | cons i L ih =>
    intro bs j h
    have hi := h i (by simp)
    show testB (addL (setB bs i) L) j = _
    rw [ih (setB bs i) j (fun k hk => by rw [setB_length]; exact h k (by simp [hk])), testB_setB bs i j (by omega)]
    by_cases e1 : j = i <;> by_cases e2 : j ∈ L <;> simp [e1, e2]
theorem hasL_iff (bs L : List Nat) : hasL bs L = true ↔ ∀ i ∈ L, testB bs i = true := by simp [hasL]
theorem hasL_addL {bs L : List Nat} (h : ∀ i ∈ L, i < 8 * bs.length) : hasL (addL bs L) L = true := by
  rw [hasL_iff]
  intro i hi
  rw [testB_addL L bs i h]; simp [hi]
theorem hasL_mono {bs L M : List Nat} (h : ∀ i ∈ L, i < 8 * bs.length) (k : hasL bs M = true) : hasL (addL bs L) M = true := by
  rw [hasL_iff] at k ⊢
  intro i hi
  rw [testB_addL L bs i h, k i hi]; simp
/-- bytes are known by their bits -/
theorem ext_bits {bs cs : List Nat} (hl : bs.length = cs.length) (hb : ∀ x ∈ bs, x < 256) (hc : ∀ x ∈ cs, x < 256) (h : ∀ j, j < 8 * bs.length → testB bs j = testB cs j) : bs = cs := by
  apply List.ext_getElem hl
  intro i h1 h2
  apply Nat.eq_of_testBit_eq
  intro k
  by_cases q : k < 8
  · have := h (8 * i + k) (by omega)
    unfold testB at this
    rw [show (8 * i + k) / 8 = i from by omega, show (8 * i + k) % 8 = k from by omega] at this
    simpa [List.getD_eq_getElem?_getD, h1, h2] using this
  · have e : ∀ x, x < 256 → x.testBit k = false := fun x hx => Nat.testBit_lt_two_pow (Nat.lt_of_lt_of_le (show x < 2 ^ 8 from hx) (Nat.pow_le_pow_right (by omega) (by omega)))
    rw [e _ (hb _ (List.getElem_mem _)), e _ (hc _ (List.getElem_mem _))]
/-- how many bits are set -/
def popB (x : Nat) : Nat := (List.range 8).countP fun k => x.testBit k
def popL (bs : List Nat) : Nat := (bs.map popB).sum
theorem popB_le (x : Nat) : popB x ≤ 8 := by
  have := List.countP_le_length (p := fun k => x.testBit k) (l := List.range 8)
  simpa [popB] using this
theorem popL_le (bs : List Nat) : popL bs ≤ 8 * bs.length := by
  induction bs with
  | nil => simp [popL]
  | cons x bs ih => have := popB_le x; simp only [popL, List.map_cons, List.sum_cons, List.length_cons] at ih ⊢; omega
theorem popB_or (x y : Nat) : popB x ≤ popB (x ||| y) := by
  unfold popB
  apply List.countP_mono_left
  intro k _ h
  simp [Nat.testBit_or, h]
theorem popL_set (bs : List Nat) (i y : Nat) (h : popB (bs.getD i 0) ≤ popB y) : popL bs ≤ popL (bs.set i y) := by
  induction bs generalizing i with
  | nil => simp [popL]
  | cons x bs ih =>
    cases i with
    | zero => simp only [List.getD_cons_zero] at h; simp only [popL, List.set_cons_zero, List.map_cons, List.sum_cons]; omega
    | succ i => have := ih i (by simpa using h); simp only [popL, List.set_cons_succ, List.map_cons, List.sum_cons] at this ⊢; omega
theorem popL_setB (bs : List Nat) (i : Nat) : popL bs ≤ popL (setB bs i) := popL_set _ _ _ (popB_or _ _)
theorem popL_addL (L : List Nat) : ∀ bs, popL bs ≤ popL (addL bs L) := by
  induction L with
  | nil => intro bs; exact Nat.le_refl _
  | cons i L ih => intro bs; exact Nat.le_trans (popL_setB bs i) (ih _)
theorem addL_append (bs L M : List Nat) : addL bs (L ++ M) = addL (addL bs L) M := by simp [addL]
end Go.Proofs.YtkdipflmmlnbpaaDoor.Tithe
