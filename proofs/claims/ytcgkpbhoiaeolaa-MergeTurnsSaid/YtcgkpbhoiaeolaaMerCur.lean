/- The cursor's five calls. -/
import Derived.Test.YtcgkpbhoiaeolaaMerSet
namespace Go.Proofs.Ytcgkpbhoiaeolaa.Tithe
open Go.RowKit Go.Sort
set_option linter.unusedVariables false
theorem enter_less (args : Array Value) (W : World) : (callFunc 38 args).run Try.prog W = .ok (.enter 38 args) W := by
  go_simp
theorem enter_more (args : Array Value) (W : World) : (callFunc 40 args).run Try.prog W = .ok (.enter 40 args) W := by
  go_simp
theorem enter_first (args : Array Value) (W : World) : (callFunc 37 args).run Try.prog W = .ok (.enter 37 args) W := by
  go_simp
theorem enter_last (args : Array Value) (W : World) : (callFunc 39 args).run Try.prog W = .ok (.enter 39 args) W := by
  go_simp
theorem enter_next (args : Array Value) (W : World) : (callFunc 41 args).run Try.prog W = .ok (.enter 41 args) W := by
  go_simp
theorem enter_prev (args : Array Value) (W : World) : (callFunc 42 args).run Try.prog W = .ok (.enter 42 args) W := by
  go_simp
theorem enter_seek (args : Array Value) (W : World) : (callFunc 43 args).run Try.prog W = .ok (.enter 43 args) W := by
  go_simp
def ltB (a b : Int) : Bool := decide (a < b)
def gtB (a b : Int) : Bool := decide (b < a)
theorem less_any (W : World) (a b : Int) : Calls Try.prog 38 #[.int .i64 a, .int .i64 b] W fun e w' => e = .returned (.bool (ltB a b)) ∧ W = w' := by
  have h : Hid (ltB a b = decide (a < b)) := rfl
  rw [h.out]
  clear h
  go_enter Try.func38, Try.ntmps38
  go_wp2
  go_ret
  exact ⟨rfl, rfl⟩
theorem more_any (W : World) (a b : Int) : Calls Try.prog 40 #[.int .i64 a, .int .i64 b] W fun e w' => e = .returned (.bool (gtB a b)) ∧ W = w' := by
  have h : Hid (gtB a b = decide (b < a)) := rfl
  rw [h.out]
  clear h
  go_enter Try.func40, Try.ntmps40
  go_wp2
  go_ret
  exact ⟨rfl, rfl⟩
theorem first1_any (W : World) (v : Value) : Calls Try.prog 37 #[v] W fun e w' => e = .returned (.int .i64 0) ∧ Below W.heap.size W w' := by
  go_enter Try.func37, Try.ntmps37
  go_wp2
  go_ret
  exact ⟨rfl, Below.refl _ _⟩
theorem last1_any (W : World) (v : Value) (r : List It) (h : IsIt W v r) : Calls Try.prog 39 #[v] W fun e w' => e = .returned (.int .i64 ((r.length : Int) - 1)) ∧ Below W.heap.size W w' := by
  obtain ⟨a, c, rfl, h1, h2, -⟩ := h
  unfold maxLen at h2
  go_enter Try.func39, Try.ntmps39
  go_wp2
  go_ret
  exact ⟨rfl, Below.refl _ _⟩
def pNext (K : Int) (r : List It) : Int := if hasK r K then (ceilL r K : Int) + 1 else ceilL r K
theorem ceilL_le (r : List It) (K : Int) : ceilL r K ≤ r.length := List.findIdx_le_length
theorem seek1_any (W : World) (v : Value) (r : List It) (K : Int) (kb : Nat) (h : IsIt W v r) (hl : r.length ≤ 1000000) (hr : runB r = true) (hk : W.cell? ⟨kb, 0, none⟩ = some (.int .i64 K)) : Calls Try.prog 43 #[v, .pointer (some ⟨kb, 0, none⟩)] W fun e w' => e = .returned (.int .i64 (ceilL r K : Nat)) ∧ Below W.heap.size W w' := by
  have hcall := Lib.hid (find_any v r K W h hl hr)
  obtain ⟨a, c, rfl, -, -, -⟩ := h
  clear hr
  go_enter Try.func43, Try.ntmps43
  go_wp2_with fail
  refine hcall.out.mono ?_
  rintro e w5 ⟨rfl, hb5⟩
  go_wp2
  go_ret
  exact ⟨rfl, hb5⟩
theorem prev1_any (W : World) (v : Value) (r : List It) (K : Int) (kb : Nat) (h : IsIt W v r) (hl : r.length ≤ 1000000) (hr : runB r = true) (hk : W.cell? ⟨kb, 0, none⟩ = some (.int .i64 K)) : Calls Try.prog 42 #[v, .pointer (some ⟨kb, 0, none⟩)] W fun e w' => e = .returned (.int .i64 ((ceilL r K : Nat) - 1)) ∧ Below W.heap.size W w' := by
  have hcall := Lib.hid (find_any v r K W h hl hr)
  have hle := ceilL_le r K
  obtain ⟨a, c, rfl, -, -, -⟩ := h
  clear hr
  go_enter Try.func42, Try.ntmps42
  go_wp2_with fail
  refine hcall.out.mono ?_
  rintro e w5 ⟨rfl, hb5⟩
  go_wp2
  go_ret
  exact ⟨rfl, hb5⟩
theorem next1_any (W : World) (v : Value) (r : List It) (K : Int) (kb : Nat) (h : IsIt W v r) (hl : r.length ≤ 1000000) (hr : runB r = true) (hk : W.cell? ⟨kb, 0, none⟩ = some (.int .i64 K)) : Calls Try.prog 41 #[v, .pointer (some ⟨kb, 0, none⟩)] W fun e w' => e = .returned (.int .i64 (pNext K r)) ∧ Below W.heap.size W w' := by
  have hcall := Lib.hid (find_any v r K W h hl hr)
  have hle := ceilL_le r K
  obtain ⟨a, c, rfl, -, -, -⟩ := h
  have hp : pNext K r = if hasK r K then (ceilL r K : Int) + 1 else ceilL r K := rfl
  generalize hasK r K = A at *
  generalize pNext K r = z at *
  clear hr
  cases A with
  | true =>
    have hz : Hid ((ceilL r K : Int) + 1 = z) := by show _ = _; rw [hp]; rfl
    clear hp
    go_enter Try.func41, Try.ntmps41
    go_wp2_with fail
    refine hcall.out.mono ?_
    rintro e w5 ⟨rfl, hb5⟩
    go_wp2
    go_ret
    exact ⟨by rw [← hz.out]; rfl, hb5⟩
  | false =>
    have hz : Hid ((ceilL r K : Int) = z) := by show _ = _; rw [hp]; rfl
    clear hp
    go_enter Try.func41, Try.ntmps41
    go_wp2_with fail
    refine hcall.out.mono ?_
    rintro e w5 ⟨rfl, hb5⟩
    go_wp2
    go_ret
    exact ⟨by rw [← hz.out]; rfl, hb5⟩
def curFirst (ls : List (List It)) : It × Bool := setL (fun _ => 0) ltB ls
def curLast (ls : List (List It)) : It × Bool := setL (fun r => (r.length : Int) - 1) gtB ls
def curSeek (ls : List (List It)) (K : Int) : It × Bool := setL (fun r => (ceilL r K : Nat)) ltB ls
def curNext (ls : List (List It)) (K : Int) : It × Bool := setL (pNext K) ltB ls
def curPrev (ls : List (List It)) (K : Int) : It × Bool := setL (fun r => (ceilL r K : Nat) - 1) gtB ls
def OkRuns (ls : List (List It)) : Prop := ∀ r ∈ ls, r.length ≤ 1000000 ∧ runB r = true
theorem first_any (w0 w : World) (cb : Nat) (rv : Value) (ls : List (List It)) (x : It) (ok : Bool) (h : IsCur w0 w cb rv ls x ok) :
    Calls Try.prog 24 #[.pointer (some ⟨cb, 0, none⟩)] w fun e w' => e = .returned (.bool (curFirst ls).2) ∧ IsCur w0 w' cb rv ls (curFirst ls).1 (curFirst ls).2 ∧ w.grownBy w' (some cb) := by
  have hcall := Lib.hid (set_any 37 38 (fun _ => 0) ltB w0 w cb rv ls x ok h enter_first enter_less (fun W v r _ _ _ => first1_any W v) less_any)
  clear h
  go_enter Try.func24, Try.ntmps24
  go_wp2_with fail
  refine hcall.out.mono ?_
  rintro e w5 ⟨rfl, hc5, hg5⟩
  go_wp2
  go_ret
  exact ⟨rfl, hc5, hg5⟩
theorem last_any (w0 w : World) (cb : Nat) (rv : Value) (ls : List (List It)) (x : It) (ok : Bool) (h : IsCur w0 w cb rv ls x ok) :
    Calls Try.prog 25 #[.pointer (some ⟨cb, 0, none⟩)] w fun e w' => e = .returned (.bool (curLast ls).2) ∧ IsCur w0 w' cb rv ls (curLast ls).1 (curLast ls).2 ∧ w.grownBy w' (some cb) := by
  have hcall := Lib.hid (set_any 39 40 (fun r => (r.length : Int) - 1) gtB w0 w cb rv ls x ok h enter_last enter_more (fun W v r _ _ hi => last1_any W v r hi) more_any)
  clear h
  go_enter Try.func25, Try.ntmps25
  go_wp2_with fail
  refine hcall.out.mono ?_
  rintro e w5 ⟨rfl, hc5, hg5⟩
  go_wp2
  go_ret
  exact ⟨rfl, hc5, hg5⟩
theorem cur_alloc {w0 w : World} {cb : Nat} {rv : Value} {ls : List (List It)} {x : It} {ok : Bool} (h : IsCur w0 w cb rv ls x ok) (o : Obj) : IsCur w0 (w.alloc o) cb rv ls x ok :=
  ⟨h.its, h.below.alloc h.below.size o, h.old, (Below.heap_alloc w o cb (Array.getElem?_eq_some_iff.1 h.blk).1).trans h.blk⟩
theorem cell_grown {W W' : World} {gb : Nat} {a : Addr} {v : Value} (hg : W.grownBy W' (some gb)) (hc : W.cell? a = some v) (hn : a.block ≠ gb) : W'.cell? a = some v :=
  (World.cell?_of_block (hg.block a.block (block_lt_of_cell hc) (fun e => hn (Option.some.inj e)))).trans hc
theorem seek_any (w0 w : World) (cb : Nat) (rv : Value) (ls : List (List It)) (x : It) (ok : Bool) (K : Int) (h : IsCur w0 w cb rv ls x ok) (hr : OkRuns ls) :
    Calls Try.prog 28 #[.pointer (some ⟨cb, 0, none⟩), .int .i64 K] w fun e w' => e = .returned (.bool (curSeek ls K).2) ∧ IsCur w0 w' cb rv ls (curSeek ls K).1 (curSeek ls K).2 ∧ w.grownBy w' (some cb) := by
  have hW : ∀ o : Obj, o = .cells #[.int .i64 K] 3 → Calls Try.prog 36 #[.pointer (some ⟨cb, 0, none⟩), .func (.func 43) #[] #[.pointer (some ⟨w.heap.size, 0, none⟩)], .func (.func 38) #[] #[]] (w.alloc o) fun e w' => e = .returned (.bool (curSeek ls K).2) ∧ IsCur w0 w' cb rv ls (curSeek ls K).1 (curSeek ls K).2 ∧ w.grownBy w' (some cb) := by
    rintro o rfl
    have hcl := (Array.getElem?_eq_some_iff.1 h.blk).1
    refine (set_cap w.heap.size 43 38 (fun r => (ceilL r K : Nat)) ltB w0 _ cb rv ls x _ (cur_alloc h _) enter_seek enter_less (fun W v r hg hm hi => ?_) less_any).mono fun e w' ⟨h1, h2, h3⟩ => ⟨h1, h2, (grown_of_below ((Below.refl _ _).alloc (Nat.le_refl _) _)).trans h3⟩
    exact seek1_any W v r K w.heap.size hi (hr r hm).1 (hr r hm).2 (cell_grown hg (by rw [World.cell?_alloc_mark]; rfl) (by show w.heap.size ≠ cb; omega))
  have HW := Lib.hid hW
  clear hW h
  go_enter Try.func28, Try.ntmps28
  go_wp2_with fail
  refine (HW.out _ rfl).mono ?_
  rintro e w5 ⟨rfl, hc5, hg5⟩
  go_wp2
  go_ret
  exact ⟨rfl, hc5, hg5⟩
theorem next_any (w0 w : World) (cb : Nat) (rv : Value) (ls : List (List It)) (x : It) (ok : Bool) (h : IsCur w0 w cb rv ls x ok) (hr : OkRuns ls) (hok : ok = true) :
    Calls Try.prog 26 #[.pointer (some ⟨cb, 0, none⟩)] w fun e w' => e = .returned (.bool (curNext ls x.1).2) ∧ IsCur w0 w' cb rv ls (curNext ls x.1).1 (curNext ls x.1).2 ∧ w.grownBy w' (some cb) := by
  subst hok
  obtain ⟨x1, x2⟩ := x
  have hW : ∀ o : Obj, o = .cells #[.int .i64 x1] 3 → Calls Try.prog 36 #[.pointer (some ⟨cb, 0, none⟩), .func (.func 41) #[] #[.pointer (some ⟨w.heap.size, 0, none⟩)], .func (.func 38) #[] #[]] (w.alloc o) fun e w' => e = .returned (.bool (curNext ls x1).2) ∧ IsCur w0 w' cb rv ls (curNext ls x1).1 (curNext ls x1).2 ∧ w.grownBy w' (some cb) := by
    rintro o rfl
    have hcl := (Array.getElem?_eq_some_iff.1 h.blk).1
    refine (set_cap w.heap.size 41 38 (pNext x1) ltB w0 _ cb rv ls (x1, x2) _ (cur_alloc h _) enter_next enter_less (fun W v r hg hm hi => ?_) less_any).mono fun e w' ⟨h1, h2, h3⟩ => ⟨h1, h2, (grown_of_below ((Below.refl _ _).alloc (Nat.le_refl _) _)).trans h3⟩
    exact next1_any W v r x1 w.heap.size hi (hr r hm).1 (hr r hm).2 (cell_grown hg (by rw [World.cell?_alloc_mark]; rfl) (by show w.heap.size ≠ cb; omega))
  have HW := Lib.hid hW
  have k1 : w.cell? ⟨cb, 1, none⟩ = some (.int .i64 x1) := by rw [cell_of_blk h.blk]; rfl
  have k3 : w.cell? ⟨cb, 3, none⟩ = some (.bool true) := by rw [cell_of_blk h.blk]; rfl
  clear hW h
  go_enter Try.func26, Try.ntmps26
  go_wp2_with fail
  refine (HW.out _ rfl).mono ?_
  rintro e w5 ⟨rfl, hc5, hg5⟩
  go_wp2
  go_ret
  exact ⟨rfl, hc5, hg5⟩
theorem prev_any (w0 w : World) (cb : Nat) (rv : Value) (ls : List (List It)) (x : It) (ok : Bool) (h : IsCur w0 w cb rv ls x ok) (hr : OkRuns ls) (hok : ok = true) :
    Calls Try.prog 27 #[.pointer (some ⟨cb, 0, none⟩)] w fun e w' => e = .returned (.bool (curPrev ls x.1).2) ∧ IsCur w0 w' cb rv ls (curPrev ls x.1).1 (curPrev ls x.1).2 ∧ w.grownBy w' (some cb) := by
  subst hok
  obtain ⟨x1, x2⟩ := x
  have hW : ∀ o : Obj, o = .cells #[.int .i64 x1] 3 → Calls Try.prog 36 #[.pointer (some ⟨cb, 0, none⟩), .func (.func 42) #[] #[.pointer (some ⟨w.heap.size, 0, none⟩)], .func (.func 40) #[] #[]] (w.alloc o) fun e w' => e = .returned (.bool (curPrev ls x1).2) ∧ IsCur w0 w' cb rv ls (curPrev ls x1).1 (curPrev ls x1).2 ∧ w.grownBy w' (some cb) := by
    rintro o rfl
    have hcl := (Array.getElem?_eq_some_iff.1 h.blk).1
    refine (set_cap w.heap.size 42 40 (fun r => (ceilL r x1 : Nat) - 1) gtB w0 _ cb rv ls (x1, x2) _ (cur_alloc h _) enter_prev enter_more (fun W v r hg hm hi => ?_) more_any).mono fun e w' ⟨h1, h2, h3⟩ => ⟨h1, h2, (grown_of_below ((Below.refl _ _).alloc (Nat.le_refl _) _)).trans h3⟩
    exact prev1_any W v r x1 w.heap.size hi (hr r hm).1 (hr r hm).2 (cell_grown hg (by rw [World.cell?_alloc_mark]; rfl) (by show w.heap.size ≠ cb; omega))
  have HW := Lib.hid hW
  have k1 : w.cell? ⟨cb, 1, none⟩ = some (.int .i64 x1) := by rw [cell_of_blk h.blk]; rfl
  have k3 : w.cell? ⟨cb, 3, none⟩ = some (.bool true) := by rw [cell_of_blk h.blk]; rfl
  clear hW h
  go_enter Try.func27, Try.ntmps27
  go_wp2_with fail
  refine (HW.out _ rfl).mono ?_
  rintro e w5 ⟨rfl, hc5, hg5⟩
  go_wp2
  go_ret
  exact ⟨rfl, hc5, hg5⟩
theorem next_off (w0 w : World) (cb : Nat) (rv : Value) (ls : List (List It)) (x : It) (h : IsCur w0 w cb rv ls x false) :
    Calls Try.prog 26 #[.pointer (some ⟨cb, 0, none⟩)] w fun e w' => e = .returned (.bool false) ∧ w = w' := by
  have k3 : w.cell? ⟨cb, 3, none⟩ = some (.bool false) := by rw [cell_of_blk h.blk]; rfl
  clear h
  go_enter Try.func26, Try.ntmps26
  go_wp2
  go_ret
  exact ⟨rfl, rfl⟩
theorem prev_off (w0 w : World) (cb : Nat) (rv : Value) (ls : List (List It)) (x : It) (h : IsCur w0 w cb rv ls x false) :
    Calls Try.prog 27 #[.pointer (some ⟨cb, 0, none⟩)] w fun e w' => e = .returned (.bool false) ∧ w = w' := by
  have k3 : w.cell? ⟨cb, 3, none⟩ = some (.bool false) := by rw [cell_of_blk h.blk]; rfl
  clear h
  go_enter Try.func27, Try.ntmps27
  go_wp2
  go_ret
  exact ⟨rfl, rfl⟩
end Go.Proofs.Ytcgkpbhoiaeolaa.Tithe
