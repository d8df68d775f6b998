/- The document's own answers on keys, and law 15's turning of metas: walked. -/
import Derived.Test.YtjefpogeknbelaaLevChk
namespace Go.Proofs.Ytjefpogeknbelaa.Tithe
open Go.RowKit Go.Sort Go.Shelf
set_option linter.unusedVariables false
set_option maxRecDepth 100000
theorem right3_any (x : Ky) (w : World) : Calls Try.prog 35 #[.agg #[.string x.u, .int .i64 x.s, .int .i64 x.k]] w fun e w' => e = .returned (.bool (okK x)) ∧ Below w.heap.size w w' := by
  obtain ⟨u, s, k⟩ := x
  have hok : okK ⟨u, s, k⟩ = decide ((1 : Int) ≤ u.size ∧ (u.size : Int) ≤ 64 ∧ 0 ≤ s ∧ s ≤ 1099511627776 ∧ 1 ≤ k ∧ k ≤ 3) := by
    unfold okK
    rw [Bool.eq_iff_iff]
    simp only [Bool.and_eq_true, decide_eq_true_eq]
    omega
  rw [hok]
  clear hok
  obtain ⟨B, hB⟩ : ∃ B : Bool, B = decide ((1 : Int) ≤ u.size ∧ (u.size : Int) ≤ 64 ∧ 0 ≤ s ∧ s ≤ 1099511627776 ∧ 1 ≤ k ∧ k ≤ 3) := ⟨_, rfl⟩
  rw [← hB]
  have HB := Lib.hid hB
  clear hB
  dsimp only
  go_enter Try.func35, Try.ntmps35
  go_wp2
  all_goals go_ret
  all_goals refine ⟨?_, (Below.refl _ _).alloc (Nat.le_refl _) _⟩
  all_goals first
    | (show Ending.returned (.bool false) = _; rw [HB.out, decide_eq_false (by omega)])
    | (show Ending.returned (.bool true) = _; rw [HB.out, decide_eq_true (by omega)])
    | (show Ending.returned (.bool (decide _)) = _; rw [HB.out]; refine congrArg (fun q => Ending.returned (.bool q)) (decide_eq_decide.2 ?_); omega)
    | skip
theorem refKey_any (x : Ky) (w : World) : Calls Try.prog 37 #[.agg #[.string x.u, .int .i64 x.s, .int .i64 x.k]] w fun e w' => e = .returned (.agg #[.string x.u, .int .i64 x.s, .int .i64 x.k]) ∧ Below w.heap.size w w' := by
  obtain ⟨u, s, k⟩ := x
  dsimp only
  go_enter Try.func37, Try.ntmps37
  go_wp2
  refine bodyPost_ret (v := .agg #[.string u, .int .i64 s, .int .i64 k]) (by simp [results, Try.results37, go_sem]) rfl ⟨rfl, ?_⟩
  exact (((Below.refl _ _).alloc (Nat.le_refl _) _).alloc (by simp) _)
theorem key15_any (u : ByteArray) (s : Int) (w : World) : Calls Try.prog 30 #[.string u, .int .i64 s] w fun e w' => e = .returned (.agg #[.string u, .int .i64 s, .int .i64 1]) ∧ Below w.heap.size w w' := by
  go_enter Try.func30, Try.ntmps30
  go_wp2
  refine bodyPost_ret (v := .agg #[.string u, .int .i64 s, .int .i64 1]) (by simp [results, Try.results30, go_sem]) rfl ⟨rfl, ?_⟩
  exact (Below.refl _ _).alloc (Nat.le_refl _) _
theorem cmp3_any (x y : Ky) (hx : x.u.size ≤ maxLen) (hy : y.u.size ≤ maxLen) (w : World) : Calls Try.prog 36 #[.agg #[.string x.u, .int .i64 x.s, .int .i64 x.k], .agg #[.string y.u, .int .i64 y.s, .int .i64 y.k]] w fun e w' => e = .returned (.int .i64 (cmpK x y)) ∧ Below w.heap.size w w' := by
  have ho := fun W => order_any x.u y.u hx hy W
  have hc : cmpK x y = if cmpB x.u y.u = 0 then (if y.s < x.s then -1 else if x.s < y.s then 1 else if y.k < x.k then -1 else if x.k < y.k then 1 else 0) else cmpB x.u y.u := by
    rw [← or3_cmpK]
    unfold or3 cmpI
    split <;> (repeat' split) <;> omega
  clear hx hy
  obtain ⟨u, s, k⟩ := x
  obtain ⟨u', s', k'⟩ := y
  dsimp only at ho hc ⊢
  generalize cmpB u u' = c at *
  generalize cmpK ⟨u, s, k⟩ ⟨u', s', k'⟩ = r at *
  have Hr := Lib.hid hc
  clear hc
  have Ho := Lib.hid ho
  clear ho
  go_enter Try.func36, Try.ntmps36
  go_wp2_with fail
  refine (Ho.out _).mono ?_
  rintro e w1 ⟨rfl, nd, rfl⟩
  by_cases hc0 : c = 0
  · subst hc0
    rw [if_pos rfl] at Hr
    go_wp2
    all_goals go_ret
    all_goals refine ⟨?_, (((Below.refl _ _).alloc (Nat.le_refl _) _).alloc (by simp) _).trans ⟨rfl, rfl, rfl, Nat.le_refl _, fun _ _ => rfl⟩⟩
    all_goals first
      | (show Ending.returned (.int .i64 (-1)) = _; rw [Hr.out]; refine congrArg (fun q => Ending.returned (.int .i64 q)) ?_; (repeat' split) <;> omega)
      | (show Ending.returned (.int .i64 1) = _; rw [Hr.out]; refine congrArg (fun q => Ending.returned (.int .i64 q)) ?_; (repeat' split) <;> omega)
      | (show Ending.returned (.int .i64 0) = _; rw [Hr.out]; refine congrArg (fun q => Ending.returned (.int .i64 q)) ?_; (repeat' split) <;> omega)
      | skip
  · rw [if_neg hc0] at Hr
    have hcb : (c != 0) = true := by simpa using hc0
    go_wp2
    go_ret
    exact ⟨by rw [Hr.out]; rfl, (((Below.refl _ _).alloc (Nat.le_refl _) _).alloc (by simp) _).trans ⟨rfl, rfl, rfl, Nat.le_refl _, fun _ _ => rfl⟩⟩
end Go.Proofs.Ytjefpogeknbelaa.Tithe
