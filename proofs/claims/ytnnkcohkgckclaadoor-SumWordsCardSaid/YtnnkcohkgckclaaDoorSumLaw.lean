/- The sum of bytes by halves is the sum bit by bit: plain facts. -/
import Derived.Test.YtnnkcohkgckclaaDoorSumSpec
namespace Go.Proofs.YtnnkcohkgckclaaDoor.Tithe
theorem xor_mod_two (a b : Nat) : (a ^^^ b) % 2 = (a % 2 + b % 2) % 2 := by
  have := Nat.testBit_xor a b 0
  simp only [Nat.testBit_zero] at this
  have ha := Nat.mod_two_eq_zero_or_one a
  have hb := Nat.mod_two_eq_zero_or_one b
  have hc := Nat.mod_two_eq_zero_or_one (a ^^^ b)
  rcases ha with ha | ha <;> rcases hb with hb | hb <;> rcases hc with hc | hc <;> simp [ha, hb, hc] at this ⊢
theorem xor_div_two (a b : Nat) : (a ^^^ b) / 2 = (a / 2) ^^^ (b / 2) := by
  have := Nat.shiftRight_xor_distrib (a := a) (b := b) (i := 1)
  simpa [Nat.shiftRight_eq_div_pow] using this
theorem bitStep_xor (a b : Nat) : bitStep (a ^^^ b) = bitStep a ^^^ bitStep b := by
  unfold bitStep
  rw [xor_mod_two, xor_div_two]
  have ha := Nat.mod_two_eq_zero_or_one a
  have hb := Nat.mod_two_eq_zero_or_one b
  rcases ha with ha | ha <;> rcases hb with hb | hb <;> simp [ha, hb]
  · ac_rfl
  · ac_rfl
  · rw [show a / 2 ^^^ 2197175160 ^^^ (b / 2 ^^^ 2197175160) = a / 2 ^^^ b / 2 ^^^ (2197175160 ^^^ 2197175160) from by ac_rfl]; simp
theorem bits8_xor (k a b : Nat) : bits8 k (a ^^^ b) = bits8 k a ^^^ bits8 k b := by
  induction k with
  | zero => rfl
  | succ k ih => rw [bits8, ih, bitStep_xor]; rfl
theorem bitStep_even (h : Nat) : bitStep (2 * h) = h := by unfold bitStep; rw [if_neg (by omega)]; omega
theorem bits8_add (j k c : Nat) : bits8 (j + k) c = bits8 j (bits8 k c) := by
  induction j with
  | zero => simp [bits8]
  | succ j ih => rw [show j + 1 + k = (j + k) + 1 from by omega, bits8, ih]; rfl
theorem bits8_shift (k h : Nat) : bits8 k (2 ^ k * h) = h := by
  induction k with
  | zero => simp [bits8]
  | succ k ih => rw [bits8_add k 1, show 2 ^ (k + 1) * h = 2 * (2 ^ k * h) from by rw [Nat.pow_succ]; ac_rfl]; show bits8 k (bitStep (bits8 0 _)) = _; rw [bits8, bitStep_even, ih]
theorem split_xor (n c : Nat) : (2 ^ n * (c / 2 ^ n)) ^^^ (c % 2 ^ n) = c := by
  apply Nat.eq_of_testBit_eq
  intro i
  rw [Nat.testBit_xor, Nat.testBit_two_pow_mul, Nat.testBit_mod_two_pow, Nat.testBit_div_two_pow]
  by_cases h : i < n
  · simp [h, show ¬ n ≤ i from by omega]
  · rw [show i - n + n = i from by omega]; simp [h, show n ≤ i from by omega]
theorem half_eq : ∀ i, i < 16 → half i = bits8 4 i := by decide
theorem four_eq (c : Nat) : four c = bits8 4 c := by
  have e := split_xor 4 c
  have h : bits8 4 ((2 ^ 4 * (c / 2 ^ 4)) ^^^ (c % 2 ^ 4)) = (c / 2 ^ 4) ^^^ half (c % 2 ^ 4) := by
    rw [bits8_xor, bits8_shift, half_eq _ (by omega)]
  rw [e] at h
  rw [h]
  unfold four
  rw [Nat.shiftRight_eq_div_pow, show (15 : Nat) = 2 ^ 4 - 1 from rfl, Nat.and_two_pow_sub_one_eq_mod]
theorem byteStep_eq (c x : Nat) : byteStep c x = bits8 8 (c ^^^ x) := by
  unfold byteStep; rw [four_eq, four_eq, ← bits8_add]
theorem runBytes_eq (c : Nat) (l : List Nat) : runBytes c l = refRun c l := by
  unfold runBytes refRun
  congr 1
  funext c x; exact byteStep_eq c x
end Go.Proofs.YtnnkcohkgckclaaDoor.Tithe
