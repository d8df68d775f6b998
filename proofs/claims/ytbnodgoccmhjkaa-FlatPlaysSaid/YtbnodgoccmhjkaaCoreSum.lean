/- Plain facts on the sum of bytes: no program in sight. -/
namespace Go.Proofs.Ytbnodgoccmhjkaa.Tithe
/-- what four bits bring in -/
def halfL : List Nat := [0, 274646895, 549293790, 820201905, 1098587580, 1361435347, 1640403810, 1905808397, 2197175160, 2460548119, 2722870694, 2987750089, 3280807620, 3553878443, 3811616794, 4084100981]
def half (i : Nat) : Nat := halfL.getD i 0
def four (c : Nat) : Nat := (c >>> 4) ^^^ half (c &&& 15)
def byteStep (c x : Nat) : Nat := four (four (c ^^^ x))
def runBytes (c : Nat) (l : List Nat) : Nat := l.foldl byteStep c
def moreOf (c : Nat) (l : List Nat) : Nat := 4294967295 - runBytes (4294967295 - c) l
theorem half_lt (i : Nat) : half i < 4294967296 := by
  by_cases h : i < 16
  · have : ∀ i, i < 16 → half i < 4294967296 := by decide
    exact this i h
  · unfold half; rw [List.getD_eq_getElem?_getD, List.getElem?_eq_none (by simp [halfL]; omega)]; simp
theorem four_lt {c : Nat} (h : c < 4294967296) : four c < 4294967296 := by
  have : (c >>> 4) ^^^ half (c &&& 15) < 2 ^ 32 := Nat.xor_lt_two_pow (by rw [Nat.shiftRight_eq_div_pow]; omega) (half_lt _)
  exact this
theorem xor_lt32 {a b : Nat} (h : a < 4294967296) (k : b < 4294967296) : a ^^^ b < 4294967296 := by
  have : a ^^^ b < 2 ^ 32 := Nat.xor_lt_two_pow h k
  exact this
theorem byteStep_lt {c x : Nat} (h : c < 4294967296) (hx : x < 256) : byteStep c x < 4294967296 :=
  four_lt (four_lt (xor_lt32 h (by omega)))
theorem runBytes_lt {l : List Nat} : ∀ {c : Nat}, c < 4294967296 → (∀ x ∈ l, x < 256) → runBytes c l < 4294967296 := by
  induction l with
  | nil => intro c h _; exact h
  | cons x l ih => intro c h hx; exact ih (byteStep_lt h (hx x (by simp))) (fun y hy => hx y (by simp [hy]))
/-- the reference: one bit; some bits; a byte; bytes -/
def bitStep (c : Nat) : Nat := if c % 2 = 1 then (c / 2) ^^^ 2197175160 else c / 2
def bits8 : Nat → Nat → Nat
  | 0, c => c
  | k + 1, c => bitStep (bits8 k c)
def refRun (c : Nat) (l : List Nat) : Nat := l.foldl (fun c x => bits8 8 (c ^^^ x)) c
theorem bitStep_lt {c : Nat} (h : c < 4294967296) : bitStep c < 4294967296 := by
  unfold bitStep; split
  · exact xor_lt32 (by omega) (by omega)
  · omega
theorem bits8_lt (k : Nat) {c : Nat} (h : c < 4294967296) : bits8 k c < 4294967296 := by
  induction k with
  | zero => exact h
  | succ k ih => exact bitStep_lt ih
theorem refRun_lt {l : List Nat} : ∀ {c : Nat}, c < 4294967296 → (∀ x ∈ l, x < 256) → refRun c l < 4294967296 := by
  induction l with
  | nil => intro c h _; exact h
  | cons x l ih => intro c h hx; exact ih (bits8_lt 8 (xor_lt32 h (by have := hx x (by simp); omega))) (fun y hy => hx y (by simp [hy]))
/-- rotations by 15 and by 17 to the left -/
def rot15 (c : Nat) : Nat := c * 32768 % 4294967296 + c / 131072
def rot17 (c : Nat) : Nat := c * 131072 % 4294967296 + c / 32768
theorem rot15_lt {c : Nat} (h : c < 4294967296) : rot15 c < 4294967296 := by unfold rot15; omega
theorem rot17_lt {c : Nat} (h : c < 4294967296) : rot17 c < 4294967296 := by unfold rot17; omega
theorem rot15_17 {c : Nat} (h : c < 4294967296) : rot15 (rot17 c) = c := by
  have e : rot17 c = c % 32768 * 131072 + c / 32768 := by unfold rot17; omega
  have e1 : rot17 c / 131072 = c % 32768 := by rw [e]; omega
  have e2 : rot17 c * 32768 % 4294967296 = c / 32768 * 32768 := by rw [e]; omega
  unfold rot15; rw [e1, e2]; omega
theorem rot17_15 {c : Nat} (h : c < 4294967296) : rot17 (rot15 c) = c := by
  have e : rot15 c = c % 131072 * 32768 + c / 131072 := by unfold rot15; omega
  have e1 : rot15 c / 32768 = c % 131072 := by rw [e]; omega
  have e2 : rot15 c * 131072 % 4294967296 = c / 131072 * 131072 := by rw [e]; omega
  unfold rot17; rw [e1, e2]; omega
theorem or15 {c : Nat} (h : c < 4294967296) : (c * 32768 % 4294967296) ||| (c / 131072) = rot15 c := by
  unfold rot15
  rw [show c * 32768 % 4294967296 = 2 ^ 15 * (c % 131072) from by omega]
  exact (Nat.two_pow_add_eq_or_of_lt (i := 15) (by omega) _).symm
theorem or17 {c : Nat} (h : c < 4294967296) : (c * 131072 % 4294967296) ||| (c / 32768) = rot17 c := by
  unfold rot17
  rw [show c * 131072 % 4294967296 = 2 ^ 17 * (c % 32768) from by omega]
  exact (Nat.two_pow_add_eq_or_of_lt (i := 17) (by omega) _).symm
def maskOf (c : Nat) : Nat := (rot17 c + 2726488792) % 4294967296
def unmaskOf (c : Nat) : Nat := rot15 ((c + 1568478504) % 4294967296)
theorem maskOf_lt (c : Nat) : maskOf c < 4294967296 := by unfold maskOf; omega
theorem unmaskOf_lt (c : Nat) : unmaskOf c < 4294967296 := rot15_lt (by omega)
theorem unmask_mask {c : Nat} (h : c < 4294967296) : unmaskOf (maskOf c) = c := by
  have := rot17_lt h
  unfold unmaskOf maskOf
  rw [show ((rot17 c + 2726488792) % 4294967296 + 1568478504) % 4294967296 = rot17 c from by omega, rot15_17 h]
theorem mask_unmask {c : Nat} (h : c < 4294967296) : maskOf (unmaskOf c) = c := by
  unfold unmaskOf maskOf
  rw [rot17_15 (by omega)]; omega
theorem mask_inj {c d : Nat} (h : c < 4294967296) (k : d < 4294967296) : maskOf c = maskOf d ↔ c = d :=
  ⟨fun e => by rw [← unmask_mask h, e, unmask_mask k], fun e => by rw [e]⟩
theorem xor_mod_two (a b : Nat) : (a ^^^ b) % 2 = (a % 2 + b % 2) % 2 := by
  have := Nat.testBit_xor a b 0
  simp only [Nat.testBit_zero] at this
  have ha := Nat.mod_two_eq_zero_or_one a
  have hb := Nat.mod_two_eq_zero_or_one b
  have hc := Nat.mod_two_eq_zero_or_one (a ^^^ b)
  rcases ha with ha | ha <;> rcases hb with hb | hb <;> rcases hc with hc | hc <;> simp [ha, hb, hc] at this ⊢
theorem xor_div_two (a b : Nat) : (a ^^^ b) / 2 = (a / 2) ^^^ (b / 2) := by
  have := Nat.shiftRight_xor_distrib (a := a) (b := b) (i := 1)
  simpa [Nat.shiftRight_eq_div_pow] using this
theorem bitStep_xor (a b : Nat) : bitStep (a ^^^ b) = bitStep a ^^^ bitStep b := by
  unfold bitStep
  rw [xor_mod_two, xor_div_two]
  have ha := Nat.mod_two_eq_zero_or_one a
  have hb := Nat.mod_two_eq_zero_or_one b
  rcases ha with ha | ha <;> rcases hb with hb | hb <;> simp [ha, hb]
  · ac_rfl
  · ac_rfl
  · rw [show a / 2 ^^^ 2197175160 ^^^ (b / 2 ^^^ 2197175160) = a / 2 ^^^ b / 2 ^^^ (2197175160 ^^^ 2197175160) from by ac_rfl]; simp
theorem bits8_xor (k a b : Nat) : bits8 k (a ^^^ b) = bits8 k a ^^^ bits8 k b := by
  induction k with
  | zero => rfl
  | succ k ih => rw [bits8, ih, bitStep_xor]; rfl
theorem bitStep_even (h : Nat) : bitStep (2 * h) = h := by unfold bitStep; rw [if_neg (by omega)]; omega
theorem bits8_add (j k c : Nat) : bits8 (j + k) c = bits8 j (bits8 k c) := by
  induction j with
  | zero => simp [bits8]
  | succ j ih => rw [show j + 1 + k = (j + k) + 1 from by omega, bits8, ih]; rfl
theorem bits8_shift (k h : Nat) : bits8 k (2 ^ k * h) = h := by
  induction k with
  | zero => simp [bits8]
  | succ k ih => rw [bits8_add k 1, show 2 ^ (k + 1) * h = 2 * (2 ^ k * h) from by rw [Nat.pow_succ]; ac_rfl]; show bits8 k (bitStep (bits8 0 _)) = _; rw [bits8, bitStep_even, ih]
theorem split_xor (n c : Nat) : (2 ^ n * (c / 2 ^ n)) ^^^ (c % 2 ^ n) = c := by
  apply Nat.eq_of_testBit_eq
  intro i
  rw [Nat.testBit_xor, Nat.testBit_two_pow_mul, Nat.testBit_mod_two_pow, Nat.testBit_div_two_pow]
  by_cases h : i < n
  · simp [h, show ¬ n ≤ i from by omega]
  · rw [show i - n + n = i from by omega]; simp [h, show n ≤ i from by omega]
theorem half_eq : ∀ i, i < 16 → half i = bits8 4 i := by decide
theorem four_eq (c : Nat) : four c = bits8 4 c := by
  have e := split_xor 4 c
  have h : bits8 4 ((2 ^ 4 * (c / 2 ^ 4)) ^^^ (c % 2 ^ 4)) = (c / 2 ^ 4) ^^^ half (c % 2 ^ 4) := by
    rw [bits8_xor, bits8_shift, half_eq _ (by omega)]
  rw [e] at h
  rw [h]
  unfold four
  rw [Nat.shiftRight_eq_div_pow, show (15 : Nat) = 2 ^ 4 - 1 from rfl, Nat.and_two_pow_sub_one_eq_mod]
theorem byteStep_eq (c x : Nat) : byteStep c x = bits8 8 (c ^^^ x) := by
  unfold byteStep; rw [four_eq, four_eq, ← bits8_add]
theorem runBytes_eq (c : Nat) (l : List Nat) : runBytes c l = refRun c l := by
  unfold runBytes refRun
  congr 1
  funext c x; exact byteStep_eq c x
set_option linter.unusedVariables false
theorem moreOf_lt {c : Nat} {l : List Nat} (hc : c < 4294967296) (h : ∀ x ∈ l, x < 256) : moreOf c l < 4294967296 := by unfold moreOf; omega
theorem moreOf_nil {c : Nat} (hc : c < 4294967296) : moreOf c [] = c := by unfold moreOf runBytes; simp; omega
theorem moreOf_append {c : Nat} {l m : List Nat} (hc : c < 4294967296) (h : ∀ x ∈ l, x < 256) : moreOf (moreOf c l) m = moreOf c (l ++ m) := by
  have := runBytes_lt (l := l) (c := 4294967295 - c) (by omega) h
  unfold moreOf
  rw [show 4294967295 - (4294967295 - runBytes (4294967295 - c) l) = runBytes (4294967295 - c) l from by omega]
  unfold runBytes
  rw [List.foldl_append]
theorem ofRef_eq (l : List Nat) : 4294967295 - refRun 4294967295 l = moreOf 0 l := by
  unfold moreOf; rw [runBytes_eq]
end Go.Proofs.Ytbnodgoccmhjkaa.Tithe
