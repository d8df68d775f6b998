/- Bytes compared; numbers read back, the other way round. -/
import Derived.Test.YthjjelomlgmllaaManRows
import Derived.Laws.BytesArg
import Derived.Laws.BytesString
namespace Go.Proofs.Ythjjelomlgmllaa.Tithe
open Go.RowKit Go.Sort Go.Shelf
set_option linter.unusedVariables false
theorem conv_any {w : World} {v : Value} {l : List Nat} (h : IsBs w v l) : (convert 34 9 v).run Try.prog w = .ok (.string (strOfNums (l.map Int.ofNat))) w := by
  obtain ⟨a, c, rfl, h1, h2, h3⟩ := h
  by_cases he : l = []
  · subst he
    cases a with
    | none => exact run_convert_bytes_nil w _ _ Try.underlying34 Try.underlying5 0 c _ Try.underlying9
    | some x =>
      have hl : (loadCells x 0).run Try.prog w = .ok (([] : List Int).map (Value.int .u8)).toArray w := run_loadCells_list (P := Try.prog) w x [] (fun j v hj => by simp at hj)
      show (convert 34 9 (.slice (some x) 0 c)).run Try.prog w = _
      rw [run_convert_bytes_string w _ _ _ _ 0 c Try.underlying34 Try.underlying5 Try.underlying9, run_bytesToString w _ 0 c [] hl]
      rfl
  · obtain ⟨b, off, rfl, hc⟩ := h3 he
    refine run_convert_bytes_arg w _ _ Try.underlying34 Try.underlying5 b off l.length c _ (by simp) (fun i hi => ?_) _ Try.underlying9
    have := hc i _ (List.getElem?_eq_getElem hi) 0 _ rfl
    rw [Nat.mul_one, Nat.add_zero] at this
    rw [this]
    simp [List.getD_eq_getElem?_getD, hi]
attribute [local go_sem] Oper.semAt_some
theorem same_yes (v v' : Value) (l : List Nat) (w : World) (h : IsBs w v l) (h' : IsBs w v' l) :
    Calls Try.prog 16 #[v, v'] w fun e w' => e = .returned (.bool true) ∧ w' = w := by
  have k1 := conv_any h
  have k2 := conv_any h'
  obtain ⟨a, c, rfl, -, -, -⟩ := h
  obtain ⟨a', c', rfl, -, -, -⟩ := h'
  generalize strOfNums (l.map Int.ofNat) = s at *
  go_enter Try.func16, Try.ntmps16
  go_wp2
  go_ret
  exact ⟨rfl, rfl⟩
/-- a number that was read is the one of its bytes -/
theorem rdN_inv : ∀ (f i acc : Nat) (bs : List Nat) (n : Nat) (rest : List Nat), (∀ x ∈ bs, x < 256) → rdN f i acc bs = (n, rest, false) → ∃ m, n = acc + m * 2 ^ (7 * i) ∧ bs = encF f m ++ rest ∧ (0 < i → 0 < m) ∧ m < 2 ^ (7 * f)
  | 0, _, _, _, _, _, _, h => by unfold rdN at h; cases h
  | f + 1, _, _, [], _, _, _, h => by unfold rdN at h; cases h
  | f + 1, i, acc, x :: bs, n, rest, hb, h => by
    unfold rdN at h
    have hx := hb x (List.mem_cons_self ..)
    by_cases q : x < 128
    · rw [if_pos q] at h
      by_cases z : x = 0 ∧ 0 < i
      · rw [if_pos z] at h; cases h
      · rw [if_neg z] at h
        injection h with h1 h2
        injection h2 with h2 _
        refine ⟨x, ?_, ?_, fun hi => by omega, ?_⟩
        · rw [← h1, Nat.mod_eq_of_lt q]
        · show x :: bs = (if 127 < x then (x % 128 + 128) :: encF f (x / 128) else [x]) ++ rest
          rw [if_neg (by omega), ← h2]; rfl
        · have : 2 ^ 7 ≤ 2 ^ (7 * (f + 1)) := Nat.pow_le_pow_right (by omega) (by omega)
          omega
    · rw [if_neg q] at h
      obtain ⟨m, h1, h2, h3, h4⟩ := rdN_inv f (i + 1) _ bs n rest (fun y hy => hb y (List.mem_cons_of_mem _ hy)) h
      have hm := h3 (by omega)
      refine ⟨x % 128 + 128 * m, ?_, ?_, fun _ => by omega, ?_⟩
      · rw [h1, Nat.mul_succ 7 i, Nat.pow_add, Nat.add_mul, Nat.add_assoc]
        congr 2
        rw [Nat.mul_comm 128 m, Nat.mul_assoc, Nat.mul_comm (2 ^ (7 * i)) (2 ^ 7)]
      · show x :: bs = (if 127 < x % 128 + 128 * m then ((x % 128 + 128 * m) % 128 + 128) :: encF f ((x % 128 + 128 * m) / 128) else [x % 128 + 128 * m]) ++ rest
        rw [if_pos (by omega), show (x % 128 + 128 * m) % 128 + 128 = x by omega, show (x % 128 + 128 * m) / 128 = m by omega, h2]; rfl
      · have e : 2 ^ (7 * (f + 1)) = 2 ^ (7 * f) * 128 := by rw [Nat.mul_succ 7 f, Nat.pow_add]
        rw [e]; omega
theorem numR_inv {bs : List Nat} {n : Nat} {rest : List Nat} (hb : ∀ x ∈ bs, x < 256) (h : numR bs = (n, rest, false)) : bs = encN n ++ rest ∧ n < 9223372036854775808 := by
  obtain ⟨m, h1, h2, -, h4⟩ := rdN_inv 9 0 0 bs n rest hb h
  have : n = m := by rw [h1]; simp
  subst this
  exact ⟨h2, h4⟩
theorem numB_inv {bad : Bool} {bs : List Nat} {n : Nat} {rest : List Nat} (hb : ∀ x ∈ bs, x < 256) (h : numB bad bs = (n, rest, false)) : bad = false ∧ bs = encN n ++ rest ∧ n < 9223372036854775808 := by
  unfold numB at h
  cases bad with
  | true => cases h
  | false => exact ⟨rfl, numR_inv hb h⟩
theorem supP_inv {bs : List Nat} {x : Int × Int} (hb : ∀ y ∈ bs, y < 256) (h : supP bs = some x) : bs = encS x := by
  unfold supP at h
  dsimp only at h
  split at h
  · rename_i q
    injection h with h
    simp only [Bool.and_eq_true, Bool.not_eq_true', List.isEmpty_iff] at q
    obtain ⟨⟨q1, q2⟩, -⟩ := q
    obtain ⟨⟨n1, c1, b1⟩, e1⟩ : ∃ p, p = numB false bs := ⟨_, rfl⟩
    rw [← e1] at q1 q2 h
    dsimp only at q1 q2 h
    obtain ⟨⟨n2, c2, b2⟩, e2⟩ : ∃ p, p = numB b1 c1 := ⟨_, rfl⟩
    rw [← e2] at q1 q2 h
    dsimp only at q1 q2 h
    subst q1 q2
    have hc : ∀ y ∈ c1, y < 256 := fun y hy => hb y (numB_sub false bs y (by rw [← e1]; exact hy))
    obtain ⟨rfl, e3, -⟩ := numB_inv hc e2.symm
    obtain ⟨-, e4, -⟩ := numB_inv hb e1.symm
    rw [← h]
    unfold encS
    rw [e4, e3, List.append_nil]; rfl
  · cases h
end Go.Proofs.Ythjjelomlgmllaa.Tithe
