/- wire.Size, reclog.Size: walked. -/
import Derived.Test.YtbnodgoccmhjkaaLen
import Derived.Test.YtbnodgoccmhjkaaSlice
namespace Go.Proofs.Ytbnodgoccmhjkaa.Tithe
open Go.RowKit Go.Sort
set_option linter.unusedVariables false
/-- how many bytes a number has -/
def wsz (n : Nat) : Nat := (max (Lib.bitLen n) 1 + 6) / 7
theorem wsz_pos (n : Nat) : 1 ≤ wsz n := by unfold wsz; omega
theorem wsz_le (n : Nat) (h : n < 65537) : wsz n ≤ 3 := by
  have := Lib.bitLen_le n 17 (by omega) (by omega)
  unfold wsz; omega
theorem wsize_any (n : Nat) (w : World) (h : n < 65537) :
    Calls Try.prog 63 #[.int .i64 n] w fun e w' => e = .returned (.int .i64 (wsz n : Nat)) ∧ w' = w := by
  have hb := Lib.bitLen_le n 17 (by omega) (by omega)
  have hl := len_any (n : Int)
  rw [Int.toNat_natCast] at hl
  unfold wsz
  generalize Lib.bitLen n = m at *
  have hn0 : ¬ (n : Int) < 0 := by omega
  go_enter Try.func63, Try.ntmps63
  go_wp2_with (go_at_call 51; refine (hl _ (by omega) (by omega)).mono ?_; rintro e w' ⟨rfl, rfl⟩)
  all_goals go_ret
  all_goals refine ⟨congrArg Ending.returned (congrArg (Value.int IntKind.i64) ?_), rfl⟩
  all_goals omega
/-- how many bytes a record's frame has -/
def rsz (n : Nat) : Nat := 4 + wsz n + n
theorem rsize_any (n : Nat) (w : World) (h : n < 65537) :
    Calls Try.prog 48 #[.int .i64 n] w fun e w' => e = .returned (.int .i64 (rsz n : Nat)) ∧ w' = w := by
  have hb := wsz_le n h
  have hl := fun w => wsize_any n w h
  unfold rsz
  generalize wsz n = m at *
  have hn0 : ¬ (n : Int) < 0 := by omega
  go_enter Try.func48, Try.ntmps48
  go_wp2_with (go_at_call 63; refine (hl _).mono ?_; rintro e w' ⟨rfl, rfl⟩)
  all_goals go_ret
  all_goals refine ⟨congrArg Ending.returned (congrArg (Value.int IntKind.i64) ?_), rfl⟩
  all_goals omega
end Go.Proofs.Ytbnodgoccmhjkaa.Tithe
