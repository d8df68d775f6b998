/- The plain law of keys: the order of texts and of keys. -/
import Derived.Lib.Bytealg
import Derived.Laws.Strings
import GoSem.Op.String
namespace Go.Proofs.Ythjjelomlgmllaa.Tithe
set_option linter.unusedVariables false
open Lib
theorem cb_self : ∀ a : List UInt8, compareBytes a a = 0
  | [] => rfl
  | x :: a => by
    unfold compareBytes
    rw [if_neg (UInt8.lt_irrefl x), if_neg (UInt8.lt_irrefl x), cb_self a]
theorem cb_swap : ∀ a b : List UInt8, compareBytes b a = - compareBytes a b
  | [], [] => rfl
  | [], _ :: _ => rfl
  | _ :: _, [] => rfl
  | x :: a, y :: b => by
    unfold compareBytes
    by_cases h : x < y
    · rw [if_pos h, if_neg (fun q => UInt8.lt_irrefl x (UInt8.lt_trans h q)), if_pos h]; rfl
    · by_cases h2 : y < x
      · rw [if_pos h2, if_neg h, if_pos h2]
      · rw [if_neg h2, if_neg h, if_neg h, if_neg h2, cb_swap a b]
theorem u8_eq {x y : UInt8} (h : ¬ x < y) (h2 : ¬ y < x) : x = y := UInt8.le_antisymm (UInt8.not_lt.1 h2) (UInt8.not_lt.1 h)
theorem cb_zero : ∀ a b : List UInt8, compareBytes a b = 0 ↔ a = b
  | [], [] => by simp [compareBytes]
  | [], _ :: _ => by simp [compareBytes]
  | _ :: _, [] => by simp [compareBytes]
  | x :: a, y :: b => by
    unfold compareBytes
    by_cases h : x < y
    · rw [if_pos h]
      refine ⟨fun q => by omega, fun q => ?_⟩
      injection q with q1 q2; subst q1; exact absurd h (UInt8.lt_irrefl x)
    · by_cases h2 : y < x
      · rw [if_neg h, if_pos h2]
        refine ⟨fun q => by omega, fun q => ?_⟩
        injection q with q1 q2; subst q1; exact absurd h2 (UInt8.lt_irrefl x)
      · rw [if_neg h, if_neg h2, cb_zero a b, u8_eq h h2]
        simp
theorem cb_range : ∀ a b : List UInt8, -1 ≤ compareBytes a b ∧ compareBytes a b ≤ 1
  | [], [] => by simp [compareBytes]
  | [], _ :: _ => by simp [compareBytes]
  | _ :: _, [] => by simp [compareBytes]
  | x :: a, y :: b => by
    unfold compareBytes
    by_cases h : x < y
    · rw [if_pos h]; omega
    · by_cases h2 : y < x
      · rw [if_neg h, if_pos h2]; omega
      · rw [if_neg h, if_neg h2]; exact cb_range a b
theorem cb_trans : ∀ a b c : List UInt8, compareBytes a b < 0 → compareBytes b c < 0 → compareBytes a c < 0
  | [], [], c, h, _ => by simp [compareBytes] at h
  | _ :: _, [], c, h, _ => by simp [compareBytes] at h
  | _, _ :: _, [], _, h => by simp [compareBytes] at h
  | [], _ :: _, _ :: _, _, _ => by simp [compareBytes]
  | x :: a, y :: b, z :: c, h1, h2 => by
    unfold compareBytes at h1 h2 ⊢
    by_cases p : x < y
    · by_cases q : y < z
      · rw [if_pos (UInt8.lt_trans p q)]; omega
      · by_cases q2 : z < y
        · rw [if_neg q, if_pos q2] at h2; omega
        · rw [← u8_eq q q2, if_pos p]; omega
    · by_cases p2 : y < x
      · rw [if_neg p, if_pos p2] at h1; omega
      · rw [if_neg p, if_neg p2] at h1
        have e := u8_eq p p2
        subst e
        by_cases q : x < z
        · rw [if_pos q]; omega
        · by_cases q2 : z < x
          · rw [if_neg q, if_pos q2] at h2; omega
          · rw [if_neg q, if_neg q2] at h2 ⊢
            exact cb_trans a b c h1 h2
theorem cb_less : ∀ a b : List UInt8, Op.bytesLess a b = decide (compareBytes a b < 0)
  | [], [] => by simp [Op.bytesLess, compareBytes]
  | [], _ :: _ => by simp [Op.bytesLess, compareBytes]
  | _ :: _, [] => by simp [Op.bytesLess, compareBytes]
  | x :: a, y :: b => by
    unfold compareBytes Op.bytesLess
    by_cases h : x < y
    · simp [h]
    · by_cases h2 : y < x
      · rw [if_neg h, if_pos h2]
        have : (x == y) = false := by
          rw [beq_eq_false_iff_ne]; rintro rfl; exact UInt8.lt_irrefl _ h2
        simp [h, this]
      · rw [if_neg h, if_neg h2, cb_less a b, u8_eq h h2]
        simp [UInt8.lt_irrefl]
/-! ### texts -/
def cmpB (a b : ByteArray) : Int := compareBytes a.data.toList b.data.toList
theorem cmpB_self (a : ByteArray) : cmpB a a = 0 := cb_self _
theorem cmpB_swap (a b : ByteArray) : cmpB b a = - cmpB a b := cb_swap _ _
theorem cmpB_range (a b : ByteArray) : -1 ≤ cmpB a b ∧ cmpB a b ≤ 1 := cb_range _ _
theorem ba_ext {a b : ByteArray} (h : a.data.toList = b.data.toList) : a = b := by
  obtain ⟨⟨a⟩⟩ := a
  obtain ⟨⟨b⟩⟩ := b
  have : a = b := h
  rw [this]
theorem cmpB_zero (a b : ByteArray) : cmpB a b = 0 ↔ a = b := ⟨fun h => ba_ext ((cb_zero _ _).1 h), fun h => by rw [h]; exact cmpB_self b⟩
theorem cmpB_trans {a b c : ByteArray} (h : cmpB a b < 0) (h2 : cmpB b c < 0) : cmpB a c < 0 := cb_trans _ _ _ h h2
theorem cmpB_trans' {a b c : ByteArray} (h : cmpB a b ≤ 0) (h2 : cmpB b c ≤ 0) : cmpB a c ≤ 0 := by
  by_cases e : cmpB a b = 0
  · rw [(cmpB_zero _ _).1 e]; exact h2
  · by_cases e2 : cmpB b c = 0
    · rw [← (cmpB_zero _ _).1 e2]; exact h
    · exact Int.le_of_lt (cmpB_trans (a := a) (b := b) (c := c) (by omega) (by omega))
theorem cmpB_trans_lt {a b c : ByteArray} (h : cmpB a b ≤ 0) (h2 : cmpB b c < 0) : cmpB a c < 0 := by
  by_cases e : cmpB a b = 0
  · rw [(cmpB_zero _ _).1 e]; exact h2
  · exact cmpB_trans (a := a) (b := b) (c := c) (by omega) h2
theorem cmpB_lt_trans {a b c : ByteArray} (h : cmpB a b < 0) (h2 : cmpB b c ≤ 0) : cmpB a c < 0 := by
  by_cases e2 : cmpB b c = 0
  · rw [← (cmpB_zero _ _).1 e2]; exact h
  · exact cmpB_trans (a := a) (b := b) (c := c) h (by omega)
theorem toList_eq (a : ByteArray) : a.toList = a.data.toList := Lib.toList_data a
theorem less_cmpB (a b : ByteArray) : Op.bytesLess a.toList b.toList = decide (cmpB a b < 0) := by
  rw [toList_eq, toList_eq, cb_less]; rfl
theorem beq_cmpB (a b : ByteArray) : (a.toList == b.toList) = decide (cmpB a b = 0) := by
  rw [toList_eq, toList_eq]
  by_cases h : cmpB a b = 0
  · rw [(cmpB_zero _ _).1 h]; simp [cmpB_self]
  · rw [decide_eq_false h, beq_eq_false_iff_ne]
    intro q; exact h ((cb_zero _ _).2 q)
/-! ### keys and entries -/
structure Ky where
  u : ByteArray
  s : Int
  k : Int
structure En where
  key : Ky
  val : ByteArray
def Ky.nil : Ky := ⟨⟨#[]⟩, 0, 0⟩
def En.nil : En := ⟨Ky.nil, ⟨#[]⟩⟩
def cmpI (x y : Int) : Int := if x < y then -1 else if x > y then 1 else 0
theorem cmpI_range (x y : Int) : -1 ≤ cmpI x y ∧ cmpI x y ≤ 1 := by unfold cmpI; split <;> (try split) <;> omega
/-- the order of keys -/
def cmpK (a b : Ky) : Int := if cmpB a.u b.u ≠ 0 then cmpB a.u b.u else if cmpI b.s a.s ≠ 0 then cmpI b.s a.s else cmpI b.k a.k
def okK (a : Ky) : Bool := decide (1 ≤ a.u.size) && decide (a.u.size ≤ 64) && decide (0 ≤ a.s) && decide (a.s ≤ 1099511627776) && decide (1 ≤ a.k) && decide (a.k ≤ 3)
theorem cmpK_lt (a b : Ky) : cmpK a b < 0 ↔ cmpB a.u b.u < 0 ∨ (a.u = b.u ∧ (b.s < a.s ∨ (b.s = a.s ∧ b.k < a.k))) := by
  unfold cmpK
  by_cases h : cmpB a.u b.u = 0
  · have e := (cmpB_zero _ _).1 h
    rw [if_neg (by omega)]
    unfold cmpI
    split <;> (repeat' split) <;> simp_all <;> omega
  · rw [if_pos h]
    constructor
    · intro q; exact .inl q
    · rintro (q | ⟨q, -⟩)
      · exact q
      · exact absurd ((cmpB_zero _ _).2 q) h
theorem cmpK_le (a b : Ky) (h : cmpK a b < 0) : cmpB a.u b.u ≤ 0 := by
  rcases (cmpK_lt a b).1 h with q | ⟨q, -⟩
  · omega
  · rw [q, cmpB_self]; omega
theorem cmpK_trans {a b c : Ky} (h : cmpK a b < 0) (h2 : cmpK b c < 0) : cmpK a c < 0 := by
  rw [cmpK_lt] at h h2 ⊢
  rcases h with h | ⟨e, h⟩
  · rcases h2 with h2 | ⟨e2, h2⟩
    · exact .inl (cmpB_trans h h2)
    · exact .inl (by rw [← e2]; exact h)
  · rcases h2 with h2 | ⟨e2, h2⟩
    · exact .inl (by rw [e]; exact h2)
    · exact .inr ⟨e.trans e2, by omega⟩
theorem cmpI_zero {x y : Int} (h : cmpI x y = 0) : x = y := by
  unfold cmpI at h
  split at h
  · omega
  · split at h <;> omega
theorem cmpK_zero {a b : Ky} (h : cmpK a b = 0) : a = b := by
  unfold cmpK at h
  split at h
  · next q => exact absurd h q
  · next q =>
    have e1 := (cmpB_zero _ _).1 (Decidable.not_not.1 q)
    split at h
    · next q2 => exact absurd h q2
    · next q2 =>
      have e2 := cmpI_zero (Decidable.not_not.1 q2)
      have e3 := cmpI_zero h
      obtain ⟨u, s, k⟩ := a
      obtain ⟨u', s', k'⟩ := b
      simp only at e1 e2 e3
      subst e1 e2 e3
      rfl
theorem cmpK_self (a : Ky) : cmpK a a = 0 := by
  unfold cmpK
  rw [cmpB_self]
  simp [cmpI]
theorem cmpK_swap (a b : Ky) : cmpK b a = - cmpK a b := by
  unfold cmpK
  have h1 := cmpB_swap a.u b.u
  have h2 : cmpI a.s b.s = - cmpI b.s a.s := by unfold cmpI; split <;> (repeat' split) <;> omega
  have h3 : cmpI a.k b.k = - cmpI b.k a.k := by unfold cmpI; split <;> (repeat' split) <;> omega
  rw [h1, h2, h3]
  generalize cmpB a.u b.u = x
  generalize cmpI b.s a.s = y
  generalize cmpI b.k a.k = z
  repeat' split
  all_goals omega
theorem cmpK_le_lt {a b c : Ky} (h : cmpK a b ≤ 0) (h2 : cmpK b c < 0) : cmpK a c < 0 := by
  by_cases e : cmpK a b = 0
  · rw [cmpK_zero e]; exact h2
  · exact cmpK_trans (a := a) (b := b) (c := c) (by omega) h2
theorem cmpK_le_le {a b c : Ky} (h : cmpK a b ≤ 0) (h2 : cmpK b c ≤ 0) : cmpK a c ≤ 0 := by
  by_cases e : cmpK b c = 0
  · rw [← cmpK_zero e]; exact h
  · exact Int.le_of_lt (cmpK_le_lt h (b := b) (by omega))
end Go.Proofs.Ythjjelomlgmllaa.Tithe
