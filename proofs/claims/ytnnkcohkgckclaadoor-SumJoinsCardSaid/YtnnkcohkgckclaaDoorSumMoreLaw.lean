/- The walk of the law SumMore. -/
import Derived.Test.YtnnkcohkgckclaaDoorSumMore
import Derived.Test.YtnnkcohkgckclaaDoorSumLaw
import Derived.Lib.QuietBelow
import Derived.BigQuiet
import Derived.Outline
namespace Go.Proofs.YtnnkcohkgckclaaDoor.Tithe
open Go.RowKit Go.Sort
set_option linter.unusedVariables false
theorem moreOf_lt {c : Nat} {l : List Nat} (hc : c < 4294967296) (h : ∀ x ∈ l, x < 256) : moreOf c l < 4294967296 := by unfold moreOf; omega
theorem moreOf_nil {c : Nat} (hc : c < 4294967296) : moreOf c [] = c := by unfold moreOf runBytes; simp; omega
theorem moreOf_append {c : Nat} {l m : List Nat} (hc : c < 4294967296) (h : ∀ x ∈ l, x < 256) : moreOf (moreOf c l) m = moreOf c (l ++ m) := by
  have := runBytes_lt (l := l) (c := 4294967295 - c) (by omega) h
  unfold moreOf
  rw [show 4294967295 - (4294967295 - runBytes (4294967295 - c) l) = runBytes (4294967295 - c) l from by omega]
  unfold runBytes
  rw [List.foldl_append]
theorem IsBytes.take {w : World} {a : Option Addr} {n c : Nat} {l : List Nat} (h : IsBytes w (.slice a n c) l) (k : Nat) (hk : k ≤ l.length) : IsBytes w (.slice a k c) (l.take k) := by
  obtain ⟨h8, a', c', e, h1, h2, h3⟩ := h
  injection e with e1 e2 e3
  subst e1 e2 e3
  have hl : (l.take k).length = k := by simp; omega
  refine ⟨fun x hx => h8 x (List.mem_of_mem_take hx), a, c, by rw [hl], by omega, h2, fun hne => ?_⟩
  obtain ⟨b, off, ha, hc⟩ := h3 (by rintro rfl; simp at hne)
  refine ⟨b, off, ha, fun i hi => ?_⟩
  rw [hl] at hi
  rw [hc i (by omega)]
  simp [List.getD_eq_getElem?_getD, hi]
theorem IsBytes.drop {w : World} {b off n c : Nat} {l : List Nat} (h : IsBytes w (.slice (some ⟨b, off, none⟩) n c) l) (k : Nat) (hk : k ≤ l.length) : IsBytes w (.slice (some ⟨b, off + k, none⟩) (n - k) (c - k)) (l.drop k) := by
  obtain ⟨h8, a', c', e, h1, h2, h3⟩ := h
  injection e with e1 e2 e3
  subst e1 e2 e3
  refine ⟨fun x hx => h8 x (List.mem_of_mem_drop hx), _, _, by rw [List.length_drop], by rw [List.length_drop]; omega, by omega, fun hne => ⟨_, _, rfl, fun i hi => ?_⟩⟩
  obtain ⟨b', off', ha, hc⟩ := h3 (by rintro rfl; simp at hne)
  injection ha with ha
  injection ha with e1 e2
  subst e1 e2
  rw [List.length_drop] at hi
  rw [show off + k + i = off + (k + i) from by omega, hc (k + i) (by omega)]
  simp [List.getD_eq_getElem?_getD]
theorem isBytes_empty (w : World) (a : Option Addr) (c : Nat) (hc : c ≤ maxLen) : IsBytes w (.slice a 0 c) [] := ⟨by simp, a, c, rfl, by simp, hc, fun h => absurd rfl h⟩
theorem below_of_eq {w w' : World} (h : w = w') : Below w.heap.size w w' := by subst h; exact Below.refl _ _
theorem of_b (v : Value) (l : List Nat) (w : World) (hb : IsBytes w v l) (ht : TabOk w) :
    Calls Tryd.prog 11 #[v] w fun e w' => e = .returned (.int .u32 (moreOf 0 l)) ∧ Below w.heap.size w w' :=
  (of_any v l w hb ht).mono fun _ _ ⟨h, k⟩ => ⟨h, below_of_eq k⟩
theorem more_b (c : Nat) (hc : c < 4294967296) (v : Value) (l : List Nat) (w : World) (hb : IsBytes w v l) (ht : TabOk w) :
    Calls Tryd.prog 13 #[.int .u32 c, v] w fun e w' => e = .returned (.int .u32 (moreOf c l)) ∧ Below w.heap.size w w' :=
  (more_any c hc v l w hb ht).mono fun _ _ ⟨h, k⟩ => ⟨h, below_of_eq k⟩
theorem refOf_b (v : Value) (l : List Nat) (w : World) (hb : IsBytes w v l) :
    Calls Tryd.prog 12 #[v] w fun e w' => e = .returned (.int .u32 (4294967295 - refRun 4294967295 l : Nat)) ∧ Below w.heap.size w w' :=
  (refOf_any v l w hb).mono fun _ _ ⟨h, k⟩ => ⟨h, below_of_eq k⟩
set_option maxHeartbeats 400000 in
theorem sumMore_long (v : Value) (l : List Nat) (a1 : Int) (w : World) (hb : IsBytes w v l) (ht : TabOk w) (h : 5000 < l.length ∨ a1 < 0 ∨ (l.length : Int) < a1) (hw : (Lit.int .i64 a1).wf = true) :
    Calls Tryd.prog 4 #[v, .int .i64 a1] w fun e w' => e = .returned (.bool true) ∧ Below w.heap.size w w' := by
  have ht' := Lib.hid ht
  obtain ⟨h8, a, c, rfl, h1, h2, h3⟩ := hb
  clear h3 ht
  unfold maxLen at h2
  by_cases q1 : (5000 : Int) < (l.length : Int)
  · go_enter Tryd.func4, Tryd.ntmps4
    go_wp2_with (go_at_call 10; refine (awake_any _ ht'.out).mono ?_; rintro e w' ⟨rfl, hw⟩)
    go_ret
    exact ⟨rfl, hw⟩
  · by_cases q2 : a1 < 0
    · go_enter Tryd.func4, Tryd.ntmps4
      go_wp2_with (go_at_call 10; refine (awake_any _ ht'.out).mono ?_; rintro e w' ⟨rfl, hw⟩)
      go_ret
      exact ⟨rfl, hw⟩
    · have q3 : (l.length : Int) < a1 := by omega
      clear h
      go_enter Tryd.func4, Tryd.ntmps4
      go_wp2_with (go_at_call 10; refine (awake_any _ ht'.out).mono ?_; rintro e w' ⟨rfl, hw⟩)
      go_ret
      exact ⟨rfl, hw⟩
set_option maxHeartbeats 400000 in
theorem sumMore_short (b off c : Nat) (l : List Nat) (k : Nat) (w : World) (hb : IsBytes w (.slice (some ⟨b, off, none⟩) l.length c) l) (ht : TabOk w) (h5 : (l.length : Int) ≤ 5000) (hk : k ≤ l.length) (hc : c ≠ k) :
    Calls Tryd.prog 4 #[.slice (some ⟨b, off, none⟩) l.length c, .int .i64 k] w fun e w' => e = .returned (.bool true) ∧ Below w.heap.size w w' := by
  have ht' := Lib.hid ht
  have hb' := Lib.hid hb
  obtain ⟨h8, _, _, e, h1, h2, h3⟩ := hb
  injection e with e1 e2 e3
  subst e1 e3
  clear h3 ht e2
  unfold maxLen at h2
  have hk' : (k : Int) ≤ (l.length : Int) := by omega
  have hkc : (k : Int) ≤ (c : Int) := by omega
  obtain ⟨s, es⟩ : ∃ s, s = moreOf 0 l := ⟨_, rfl⟩
  obtain ⟨s1, es1⟩ : ∃ s1, s1 = moreOf 0 (l.take k) := ⟨_, rfl⟩
  have hs1 : s1 < 4294967296 := by rw [es1]; exact moreOf_lt (by omega) (fun x hx => h8 x (List.mem_of_mem_take hx))
  have hs : s < 4294967296 := by rw [es]; exact moreOf_lt (by omega) h8
  have c1 : Hid (∀ d os, Calls Tryd.prog 11 #[.slice (some ⟨b, off, none⟩) k c] (grow (redrawn w d) os) fun e w'' => e = .returned (.int .u32 s1) ∧ ∃ p : Regrown, w'' = grow (redrawn w p.d) p.os) := by
    intro d os; rw [es1]; exact Calls.regrown_of (of_b _ _ _ ((hb'.out.take k hk).below (below_regrown w d os)) (ht'.out.below (below_regrown w d os)))
  have c2 : Hid (∀ d os, Calls Tryd.prog 13 #[.int .u32 s1, .slice (some ⟨b, off + k, none⟩) (l.length - k) (c - k)] (grow (redrawn w d) os) fun e w'' => e = .returned (.int .u32 s) ∧ ∃ p : Regrown, w'' = grow (redrawn w p.d) p.os) := by
    intro d os
    have : s = moreOf s1 (l.drop k) := by rw [es, es1, moreOf_append (by omega) (fun x hx => h8 x (List.mem_of_mem_take hx)), List.take_append_drop]
    rw [this]; exact Calls.regrown_of (more_b _ hs1 _ _ _ ((hb'.out.drop k hk).below (below_regrown w d os)) (ht'.out.below (below_regrown w d os)))
  have c3 : Hid (∀ d os, Calls Tryd.prog 12 #[.slice (some ⟨b, off, none⟩) l.length c] (grow (redrawn w d) os) fun e w'' => e = .returned (.int .u32 s) ∧ ∃ p : Regrown, w'' = grow (redrawn w p.d) p.os) := by
    intro d os
    have : s = 4294967295 - refRun 4294967295 l := by rw [es, moreOf, runBytes_eq]
    rw [this]; exact Calls.regrown_of (refOf_b _ _ _ (hb'.out.below (below_regrown w d os)))
  have c4 : Hid (∀ d os, Calls Tryd.prog 11 #[.slice (some ⟨b, off, none⟩) l.length c] (grow (redrawn w d) os) fun e w'' => e = .returned (.int .u32 s) ∧ ∃ p : Regrown, w'' = grow (redrawn w p.d) p.os) := by
    intro d os; rw [es]; exact Calls.regrown_of (of_b _ _ _ (hb'.out.below (below_regrown w d os)) (ht'.out.below (below_regrown w d os)))
  have c5 : Hid (∀ d os, Calls Tryd.prog 13 #[.int .u32 s, .slice none 0 0] (grow (redrawn w d) os) fun e w'' => e = .returned (.int .u32 s) ∧ ∃ p : Regrown, w'' = grow (redrawn w p.d) p.os) := by
    intro d os
    have := more_b s hs _ _ (grow (redrawn w d) os) (isBytes_empty _ none 0 (by simp)) (ht'.out.below (below_regrown w d os))
    rw [moreOf_nil hs] at this
    exact Calls.regrown_of this
  have c6 : Hid (∀ d os, Calls Tryd.prog 10 #[] (grow (redrawn w d) os) fun e w'' => e = .returned (.bool true) ∧ ∃ p : Regrown, w'' = grow (redrawn w p.d) p.os) := by
    intro d os; exact Calls.regrown_of (awake_any _ (ht'.out.below (below_regrown w d os)))
  clear es es1
  go_enter Tryd.func4, Tryd.ntmps4
  go_wp2
  refine wp_region_quiet_below (by kernel_rfl) (by kernel_rfl) ?_
  repeat (quiet_step (first | with_reducible exact c6.out _ _ | with_reducible exact c3.out _ _ | with_reducible exact c1.out _ _ | with_reducible exact c4.out _ _ | with_reducible exact c2.out _ _ | with_reducible exact c5.out _ _))
  refine wpQuiet_nil ?_
  intro _ hw'
  obtain ⟨⟨dq, osq⟩, hw''⟩ := hw'
  subst hw''
  go_wp2
  go_ret
  exact ⟨rfl, below_regrown w dq osq⟩
/-- parted at the end, or nothing there -/
theorem more_nil_b (c : Nat) (hc : c < 4294967296) (a : Option Addr) (cap : Nat) (w : World) :
    Calls Tryd.prog 13 #[.int .u32 c, .slice a 0 cap] w fun e w' => e = .returned (.int .u32 c) ∧ Below w.heap.size w w' :=
  (more_nil c hc a cap w).mono fun _ _ ⟨h, k⟩ => ⟨by rw [h, moreOf_nil hc], below_of_eq k⟩
set_option maxHeartbeats 400000 in
theorem sumMore_end (x : Addr) (c : Nat) (l : List Nat) (w : World) (hb : IsBytes w (.slice (some x) l.length c) l) (ht : TabOk w) (h5 : (l.length : Int) ≤ 5000)  :
    Calls Tryd.prog 4 #[.slice (some x) l.length c, .int .i64 l.length] w fun e w' => e = .returned (.bool true) ∧ Below w.heap.size w w' := by
  have ht' := Lib.hid ht
  have hb' := Lib.hid hb
  obtain ⟨h8, _, _, e, h1, h2, h3⟩ := hb
  injection e with e1 e2 e3
  subst e1 e3
  clear h3 ht e2
  unfold maxLen at h2
  skip
  have hkc : (l.length : Int) ≤ (c : Int) := by omega
  obtain ⟨s, es⟩ : ∃ s, s = moreOf 0 l := ⟨_, rfl⟩
  have hs : s < 4294967296 := by rw [es]; exact moreOf_lt (by omega) h8
  have c2 : Hid (∀ a' c' d os, Calls Tryd.prog 13 #[.int .u32 s, .slice a' 0 c'] (grow (redrawn w d) os) fun e w'' => e = .returned (.int .u32 s) ∧ ∃ p : Regrown, w'' = grow (redrawn w p.d) p.os) := by
    intro a' c' d os
    exact Calls.regrown_of (more_nil_b s hs _ _ _)
  have c3 : Hid (∀ d os, Calls Tryd.prog 12 #[.slice (some x) l.length c] (grow (redrawn w d) os) fun e w'' => e = .returned (.int .u32 s) ∧ ∃ p : Regrown, w'' = grow (redrawn w p.d) p.os) := by
    intro d os
    have : s = 4294967295 - refRun 4294967295 l := by rw [es, moreOf, runBytes_eq]
    rw [this]; exact Calls.regrown_of (refOf_b _ _ _ (hb'.out.below (below_regrown w d os)))
  have c4 : Hid (∀ d os, Calls Tryd.prog 11 #[.slice (some x) l.length c] (grow (redrawn w d) os) fun e w'' => e = .returned (.int .u32 s) ∧ ∃ p : Regrown, w'' = grow (redrawn w p.d) p.os) := by
    intro d os; rw [es]; exact Calls.regrown_of (of_b _ _ _ (hb'.out.below (below_regrown w d os)) (ht'.out.below (below_regrown w d os)))
  have c6 : Hid (∀ d os, Calls Tryd.prog 10 #[] (grow (redrawn w d) os) fun e w'' => e = .returned (.bool true) ∧ ∃ p : Regrown, w'' = grow (redrawn w p.d) p.os) := by
    intro d os; exact Calls.regrown_of (awake_any _ (ht'.out.below (below_regrown w d os)))
  clear es
  go_enter Tryd.func4, Tryd.ntmps4
  go_wp2
  refine wp_region_quiet_below (by kernel_rfl) (by kernel_rfl) ?_
  repeat (quiet_step (first | with_reducible exact c6.out _ _ | with_reducible exact c3.out _ _ | with_reducible exact c4.out _ _ | with_reducible exact c2.out _ _ _ _))
  refine wpQuiet_nil ?_
  intro _ hw'
  obtain ⟨⟨dq, osq⟩, hw''⟩ := hw'
  subst hw''
  go_wp2
  all_goals (go_ret; exact ⟨rfl, below_regrown w dq osq⟩)
set_option maxHeartbeats 400000 in
theorem sumMore_none (c : Nat) (l : List Nat) (w : World) (hb : IsBytes w (.slice none l.length c) l) (ht : TabOk w) (h5 : (l.length : Int) ≤ 5000)  :
    Calls Tryd.prog 4 #[.slice none l.length c, .int .i64 l.length] w fun e w' => e = .returned (.bool true) ∧ Below w.heap.size w w' := by
  have ht' := Lib.hid ht
  have hb' := Lib.hid hb
  obtain ⟨h8, _, _, e, h1, h2, h3⟩ := hb
  injection e with e1 e2 e3
  subst e1 e3
  clear h3 ht e2
  unfold maxLen at h2
  skip
  have hkc : (l.length : Int) ≤ (c : Int) := by omega
  obtain ⟨s, es⟩ : ∃ s, s = moreOf 0 l := ⟨_, rfl⟩
  have hs : s < 4294967296 := by rw [es]; exact moreOf_lt (by omega) h8
  have c2 : Hid (∀ a' c' d os, Calls Tryd.prog 13 #[.int .u32 s, .slice a' 0 c'] (grow (redrawn w d) os) fun e w'' => e = .returned (.int .u32 s) ∧ ∃ p : Regrown, w'' = grow (redrawn w p.d) p.os) := by
    intro a' c' d os
    exact Calls.regrown_of (more_nil_b s hs _ _ _)
  have c3 : Hid (∀ d os, Calls Tryd.prog 12 #[.slice none l.length c] (grow (redrawn w d) os) fun e w'' => e = .returned (.int .u32 s) ∧ ∃ p : Regrown, w'' = grow (redrawn w p.d) p.os) := by
    intro d os
    have : s = 4294967295 - refRun 4294967295 l := by rw [es, moreOf, runBytes_eq]
    rw [this]; exact Calls.regrown_of (refOf_b _ _ _ (hb'.out.below (below_regrown w d os)))
  have c4 : Hid (∀ d os, Calls Tryd.prog 11 #[.slice none l.length c] (grow (redrawn w d) os) fun e w'' => e = .returned (.int .u32 s) ∧ ∃ p : Regrown, w'' = grow (redrawn w p.d) p.os) := by
    intro d os; rw [es]; exact Calls.regrown_of (of_b _ _ _ (hb'.out.below (below_regrown w d os)) (ht'.out.below (below_regrown w d os)))
  have c6 : Hid (∀ d os, Calls Tryd.prog 10 #[] (grow (redrawn w d) os) fun e w'' => e = .returned (.bool true) ∧ ∃ p : Regrown, w'' = grow (redrawn w p.d) p.os) := by
    intro d os; exact Calls.regrown_of (awake_any _ (ht'.out.below (below_regrown w d os)))
  clear es
  go_enter Tryd.func4, Tryd.ntmps4
  go_wp2
  refine wp_region_quiet_below (by kernel_rfl) (by kernel_rfl) ?_
  repeat (quiet_step (first | with_reducible exact c6.out _ _ | with_reducible exact c3.out _ _ | with_reducible exact c4.out _ _ | with_reducible exact c2.out _ _ _ _))
  refine wpQuiet_nil ?_
  intro _ hw'
  obtain ⟨⟨dq, osq⟩, hw''⟩ := hw'
  subst hw''
  go_wp2
  go_ret
  exact ⟨rfl, below_regrown w dq osq⟩
theorem sumMore_walk (v : Value) (l : List Nat) (a1 : Int) (w : World) (hb : IsBytes w v l) (hw : (Lit.int .i64 a1).wf = true) (ht : TabOk w) :
    Calls Tryd.prog 4 #[v, .int .i64 a1] w fun e w' => e = .returned (.bool true) ∧ Below w.heap.size w w' := by
  by_cases h : 5000 < l.length ∨ a1 < 0 ∨ (l.length : Int) < a1
  · exact sumMore_long v l a1 w hb ht h hw
  · obtain ⟨k, rfl⟩ := Int.eq_ofNat_of_zero_le (show 0 ≤ a1 by omega)
    have hb' := hb
    obtain ⟨h8, a, c, rfl, h1, h2, h3⟩ := hb
    by_cases hk : k = l.length
    · subst hk
      cases a with
      | none => exact sumMore_none c l w hb' ht (by omega)
      | some x => exact sumMore_end x c l w hb' ht (by omega)
    · obtain ⟨b, off, rfl, hc⟩ := h3 (by rintro rfl; simp at h hk; omega)
      exact sumMore_short b off c l k w hb' ht (by omega) (by omega) (by omega)
end Go.Proofs.YtnnkcohkgckclaaDoor.Tithe
