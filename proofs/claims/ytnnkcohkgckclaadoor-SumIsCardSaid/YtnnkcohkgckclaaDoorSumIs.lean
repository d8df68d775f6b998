/- The walk of the law SumIs. -/
import Derived.Test.YtnnkcohkgckclaaDoorSumMore
import Derived.Test.YtnnkcohkgckclaaDoorSumLaw
namespace Go.Proofs.YtnnkcohkgckclaaDoor.Tithe
open Go.RowKit
set_option linter.unusedVariables false
theorem ofRef_eq (l : List Nat) : 4294967295 - refRun 4294967295 l = moreOf 0 l := by
  unfold moreOf; rw [runBytes_eq]
theorem sumIs_walk (v : Value) (l : List Nat) (w : World) (hb : IsBytes w v l) (ht : TabOk w) :
    Calls Tryd.prog 3 #[v] w fun e w' => e = .returned (.bool true) ∧ Below w.heap.size w w' := by
  have hb' := Lib.hid hb
  have ht' := Lib.hid ht
  obtain ⟨h8, a, c, rfl, h1, h2, h3⟩ := hb
  clear h3 ht
  unfold maxLen at h2
  have href := Lib.hid (fun W (h : IsBytes W (.slice a l.length c) l) => refOf_any _ l W h)
  rw [ofRef_eq] at href
  by_cases hlong : (5000 : Int) < (l.length : Int)
  · go_enter Tryd.func3, Tryd.ntmps3
    go_wp2_with (go_at_call 10; refine (awake_any _ ht'.out).mono ?_; rintro e w' ⟨rfl, hw⟩)
    go_ret
    exact ⟨rfl, hw⟩
  · go_enter Tryd.func3, Tryd.ntmps3
    go_wp2_with (first | (go_at_call 10; refine (awake_any _ ht'.out).mono ?_; rintro e w' ⟨rfl, hw⟩) | (go_at_call 11; refine (of_any _ l _ hb'.out ht'.out).mono ?_; rintro e w' ⟨rfl, rfl⟩) | (go_at_call 12; refine (href.out _ hb'.out).mono ?_; rintro e w' ⟨rfl, rfl⟩))
    go_ret
    exact ⟨rfl, hw⟩
end Go.Proofs.YtnnkcohkgckclaaDoor.Tithe
