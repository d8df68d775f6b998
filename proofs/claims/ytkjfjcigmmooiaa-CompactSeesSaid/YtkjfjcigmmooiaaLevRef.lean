/- The document's own answers on keys, and law 15's turning of metas: walked. -/
import Derived.Test.YtkjfjcigmmooiaaLevChk
namespace Go.Proofs.Ytkjfjcigmmooiaa.Tithe
open Go.RowKit Go.Sort Go.Shelf
set_option linter.unusedVariables false
set_option maxRecDepth 100000
theorem cmp3_any (x y : Ky) (hx : x.u.size ≤ maxLen) (hy : y.u.size ≤ maxLen) (w : World) : Calls Try.prog 70 #[.agg #[.string x.u, .int .i64 x.s, .int .i64 x.k], .agg #[.string y.u, .int .i64 y.s, .int .i64 y.k]] w fun e w' => e = .returned (.int .i64 (cmpK x y)) ∧ Below w.heap.size w w' := by
  have ho := fun W => order_any x.u y.u hx hy W
  have hc : cmpK x y = if cmpB x.u y.u = 0 then (if y.s < x.s then -1 else if x.s < y.s then 1 else if y.k < x.k then -1 else if x.k < y.k then 1 else 0) else cmpB x.u y.u := by
    rw [← or3_cmpK]
    unfold or3 cmpI
    split <;> (repeat' split) <;> omega
  clear hx hy
  obtain ⟨u, s, k⟩ := x
  obtain ⟨u', s', k'⟩ := y
  dsimp only at ho hc ⊢
  generalize cmpB u u' = c at *
  generalize cmpK ⟨u, s, k⟩ ⟨u', s', k'⟩ = r at *
  have Hr := Lib.hid hc
  clear hc
  have Ho := Lib.hid ho
  clear ho
  go_enter Try.func70, Try.ntmps70
  go_wp2_with fail
  refine (Ho.out _).mono ?_
  rintro e w1 ⟨rfl, nd, rfl⟩
  by_cases hc0 : c = 0
  · subst hc0
    rw [if_pos rfl] at Hr
    go_wp2
    all_goals go_ret
    all_goals refine ⟨?_, (((Below.refl _ _).alloc (Nat.le_refl _) _).alloc (by simp) _).trans ⟨rfl, rfl, rfl, Nat.le_refl _, fun _ _ => rfl⟩⟩
    all_goals first
      | (show Ending.returned (.int .i64 (-1)) = _; rw [Hr.out]; refine congrArg (fun q => Ending.returned (.int .i64 q)) ?_; (repeat' split) <;> omega)
      | (show Ending.returned (.int .i64 1) = _; rw [Hr.out]; refine congrArg (fun q => Ending.returned (.int .i64 q)) ?_; (repeat' split) <;> omega)
      | (show Ending.returned (.int .i64 0) = _; rw [Hr.out]; refine congrArg (fun q => Ending.returned (.int .i64 q)) ?_; (repeat' split) <;> omega)
      | skip
  · rw [if_neg hc0] at Hr
    have hcb : (c != 0) = true := by simpa using hc0
    go_wp2
    go_ret
    exact ⟨by rw [Hr.out]; rfl, (((Below.refl _ _).alloc (Nat.le_refl _) _).alloc (by simp) _).trans ⟨rfl, rfl, rfl, Nat.le_refl _, fun _ _ => rfl⟩⟩
end Go.Proofs.Ytkjfjcigmmooiaa.Tithe
