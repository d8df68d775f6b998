/- The cursor as an iterator. -/
import Derived.Test.YtcgkpbhoiaeolaaMerNew
import Derived.Sort.LoopGhostIn
namespace Go.Proofs.Ytcgkpbhoiaeolaa.Tithe
open Go.RowKit Go.Sort Go.Shelf
set_option linter.unusedVariables false
theorem valid_any (w0 w : World) (cb : Nat) (rv : Value) (ls : List (List It)) (x : It) (ok : Bool) (h : IsCur w0 w cb rv ls x ok) :
    Calls Try.prog 23 #[.pointer (some ⟨cb, 0, none⟩)] w fun e w' => e = .returned (.bool ok) ∧ w = w' := by
  have k3 : w.cell? ⟨cb, 3, none⟩ = some (.bool ok) := by rw [cell_of_blk h.blk]; rfl
  clear h
  go_enter Try.func23, Try.ntmps23
  go_wp2
  go_ret
  exact ⟨rfl, rfl⟩
theorem item_any (w0 w : World) (cb : Nat) (rv : Value) (ls : List (List It)) (x : It) (ok : Bool) (h : IsCur w0 w cb rv ls x ok) :
    Calls Try.prog 29 #[.pointer (some ⟨cb, 0, none⟩)] w fun e w' => e = .returned (.agg #[.int .i64 x.1, .int .i64 x.2]) ∧ Below w.heap.size w w' := by
  obtain ⟨x1, x2⟩ := x
  have hcl := (Array.getElem?_eq_some_iff.1 h.blk).1
  have k1 : w.cell? ⟨cb, 1, none⟩ = some (.int .i64 x1) := by rw [cell_of_blk h.blk]; rfl
  have k2 : w.cell? ⟨cb, 2, none⟩ = some (.int .i64 x2) := by rw [cell_of_blk h.blk]; rfl
  clear h
  go_enter Try.func29, Try.ntmps29
  go_wp2
  refine bodyPost_ret (v := .agg #[.int .i64 x1, .int .i64 x2]) (by simp [results, Try.results29, go_sem]) rfl ⟨rfl, (Below.refl _ _).alloc (Nat.le_refl _) _⟩
theorem allc_any (w : World) (cb : Nat) :
    Calls Try.prog 30 #[.pointer (some ⟨cb, 0, none⟩)] w fun e w' => e = .returned (.func (.func 44) #[] #[.pointer (some ⟨w.heap.size, 0, none⟩)]) ∧ w' = w.alloc (.cells #[.pointer (some ⟨cb, 0, none⟩)] 46) := by
  go_enter Try.func30, Try.ntmps30
  go_wp2
  go_ret
  exact ⟨rfl, rfl⟩
def IterDat (s cb : Nat) (w1 : World) (cv : Value) (ls : List (List It)) : Nat → World → Prop
  | 0, W => W.cell? ⟨s, 0, none⟩ = some (.pointer (some ⟨cb, 0, none⟩)) ∧ ∃ x ok, IsCur w1 W cb cv ls x ok
  | k + 1, W => W.cell? ⟨s, 0, none⟩ = some (.pointer (some ⟨cb, 0, none⟩)) ∧ IsCur w1 W cb cv ls ((oneL ls).getD k (0, 0)) true
theorem IsCur.kept {B : Nat} {W W' w1 : World} {row : Option Nat} {cb : Nat} {cv : Value} {ls : List (List It)} {x : It} {ok : Bool} (hB : w1.heap.size ≤ B) (h : IsCur w1 W cb cv ls x ok) (hg : W.grownBy W' row) (hr : ∀ r, row = some r → B ≤ r ∧ ∃ o : Obj, W.heap[r]? = some o ∧ o.isCells = false) : IsCur w1 W' cb cv ls x ok :=
  ⟨h.its, h.below.grown hg h.below.size (fun k e => Nat.le_trans hB (hr k e).1), h.old, (blk_kept h.blk rfl hg hr).trans h.blk⟩
theorem iterDat_own {B s cb : Nat} {w1 : World} {cv : Value} {ls : List (List It)} (hB : w1.heap.size ≤ B) : OwnFrom B (IterDat s cb w1 cv ls) := by
  intro k W W' row h hg hr
  cases k with
  | zero =>
    obtain ⟨h1, x, ok, h2⟩ := h
    exact ⟨cellF_kept h1 hg hr, x, ok, h2.kept hB hg hr⟩
  | succ k => exact ⟨cellF_kept h.1 hg hr, h.2.kept hB hg hr⟩
def CurIt (cb : Nat) (A B : World) : Prop := A.grownBy B (some cb) ∧ ∃ cs t fr, A.heap[cb]? = some (.cells cs t fr)
theorem curFirst_yes {ls : List (List It)} (h : ∀ r ∈ ls, Asc r) (hn : 0 < (oneL ls).length) : curFirst ls = ((oneL ls).getD 0 (0, 0), true) := by
  rw [curFirst_one h, List.getElem?_eq_getElem hn, List.getD_eq_getElem?_getD, List.getElem?_eq_getElem hn]; rfl
theorem curFirst_no {ls : List (List It)} (h : ∀ r ∈ ls, Asc r) (hn : (oneL ls).length = 0) : curFirst ls = ((0, 0), false) := by
  rw [curFirst_one h, List.getElem?_eq_none (by omega)]; rfl
theorem curNext_yes {ls : List (List It)} (h : ∀ r ∈ ls, Asc r) {k : Nat} (hn : k + 1 < (oneL ls).length) : curNext ls ((oneL ls).getD k (0, 0)).1 = ((oneL ls).getD (k + 1) (0, 0), true) := by
  have := curNext_one h (t := k) (by omega)
  rw [List.getD_eq_getElem?_getD, List.getElem?_eq_getElem (show k < (oneL ls).length by omega)]
  show curNext ls (oneL ls)[k].1 = _
  rw [this, List.getElem?_eq_getElem hn, List.getD_eq_getElem?_getD, List.getElem?_eq_getElem hn]; rfl
theorem curNext_no {ls : List (List It)} (h : ∀ r ∈ ls, Asc r) {k : Nat} (hk : k < (oneL ls).length) (hn : k + 1 = (oneL ls).length) : curNext ls ((oneL ls).getD k (0, 0)).1 = ((0, 0), false) := by
  have := curNext_one h (t := k) hk
  rw [List.getD_eq_getElem?_getD, List.getElem?_eq_getElem hk]
  show curNext ls (oneL ls)[k].1 = _
  rw [this, List.getElem?_eq_none (by omega)]; rfl
theorem okRuns_asc {ls : List (List It)} (h : OkRuns ls) : ∀ r ∈ ls, Asc r := fun r hr => asc_of_run (h r hr).2
attribute [local go_sem] Oper.semAt_some
theorem all_iter (s cb : Nat) (w1 : World) (cv : Value) (ls : List (List It)) (hok : OkRuns ls) (hs : s ≠ cb) :
    IterOkK Try.prog 44 #[.pointer (some ⟨s, 0, none⟩)] (fun k => #[.agg #[.int .i64 ((oneL ls).getD k (0, 0)).1, .int .i64 ((oneL ls).getD k (0, 0)).2]]) (oneL ls).length (IterDat s cb w1 cv ls) (CurIt cb) := by
  intro yl J Jx W hdat hJ hJx hY h0
  obtain ⟨d1, x, ok, hcur⟩ := hdat
  have hasc := okRuns_asc hok
  have f1 := callsIn_wide (n := 0).2 (first_any w1 W cb cv ls x ok hcur)
  have hIt0 : ∃ cs t fr, W.heap[cb]? = some (.cells cs t fr) := ⟨_, _, _, hcur.blk⟩
  have hstart : (0 < (oneL ls).length ∧ curFirst ls = ((oneL ls).getD 0 (0, 0), true)) ∨ ((oneL ls).length = 0 ∧ curFirst ls = ((0, 0), false)) := by
    rcases Nat.eq_zero_or_pos (oneL ls).length with q | q
    · exact .inr ⟨q, curFirst_no hasc q⟩
    · exact .inl ⟨q, curFirst_yes hasc q⟩
  have hnext : ∀ k, k < (oneL ls).length → (k + 1 < (oneL ls).length ∧ curNext ls ((oneL ls).getD k (0, 0)).1 = ((oneL ls).getD (k + 1) (0, 0), true)) ∨ (k + 1 = (oneL ls).length ∧ curNext ls ((oneL ls).getD k (0, 0)).1 = ((0, 0), false)) := by
    intro k hk
    by_cases q : k + 1 < (oneL ls).length
    · exact .inl ⟨q, curNext_yes hasc q⟩
    · exact .inr ⟨by omega, curNext_no hasc hk (by omega)⟩
  have Hnext := Lib.hid hnext
  have HY := Lib.hid hY
  have HJ := Lib.hid hJ
  have Hok := Lib.hid hok
  have F1 := Lib.hid f1
  have HIt0 := Lib.hid hIt0
  clear hY hJ hJx hok f1 hcur hnext hIt0 hasc
  generalize hM : oneL ls = M at *
  have HM := Lib.hid hM
  clear hM
  generalize hN : M.length = N at *
  clear hN
  generalize curFirst ls = cf at *
  obtain ⟨cx, cok⟩ := cf
  refine callsIn_of_wp Try.func44 rfl trivial ?_
  simp only [Try.ntmps44, List.size_toArray, List.length_cons, List.length_nil, Nat.reduceAdd, Nat.reduceSub, Array.replicate_succ, Array.replicate_zero, List.push_toArray, List.append_toArray, List.nil_append, List.cons_append]
  gi_wp2_with fail
  refine ⟨trivial, rfl, ?_⟩
  refine F1.out.mono ?_
  rintro e w5 ⟨rfl, hc5, hg5⟩
  have hj5 := HJ.out 0 W w5 h0 ⟨hg5, HIt0.out⟩
  have d5 : w5.cell? ⟨s, 0, none⟩ = some (.pointer (some ⟨cb, 0, none⟩)) := cell_grown hg5 d1 hs
  have Hc5 := Lib.hid hc5
  have D5 := Lib.hid d5
  have Hstart := Lib.hid hstart
  clear hc5 hg5 d1 h0 d5 hstart
  gi_wp2_with fail
  gi_loopg [3] (N + 1) (fun g okv wr => ∃ k, k ≤ N ∧ g = N - k + 1 ∧ J k wr ∧ wr.cell? ⟨s, 0, none⟩ = some (.pointer (some ⟨cb, 0, none⟩)) ∧ ((k < N ∧ okv = .bool true ∧ IsCur w1 wr cb cv ls (M.getD k (0, 0)) true) ∨ (k = N ∧ okv = .bool false)))
  case atStart =>
    refine ⟨0, Nat.zero_le _, rfl, hj5, D5.out, ?_⟩
    rcases Hstart.out with ⟨q, e⟩ | ⟨q, e⟩
    · injection e with e1 e2
      subst e1 e2
      exact .inl ⟨q, rfl, Hc5.out⟩
    · injection e with e1 e2
      subst e1 e2
      exact .inr ⟨q.symm, rfl⟩
  case round =>
    obtain ⟨k, hk, rfl, hjk, dk, hcase⟩ := hrel
    rcases hcase with ⟨hkN, rfl, hcur⟩ | ⟨rfl, rfl⟩
    · have hn1 := Hnext.out k hkN
      have hdk : IterDat s cb w1 cv ls (k + 1) wr := ⟨dk, by rw [HM.out]; exact hcur⟩
      obtain ⟨fn, tmps, assign, body, hy, hR⟩ := HY.out k wr hkN hjk hdk
      have HHM : IterDat s cb w1 cv ls (k + 1) = fun W => W.cell? ⟨s, 0, none⟩ = some (.pointer (some ⟨cb, 0, none⟩)) ∧ IsCur w1 W cb cv ls (M.getD k (0, 0)) true := by
        rw [← HM.out]; rfl
      rw [HHM] at hR
      have e1 : wr.cell? ⟨cb, 1, none⟩ = some (.int .i64 (M.getD k (0, 0)).1) := by rw [cell_of_blk hcur.blk]; rfl
      have e2 : wr.cell? ⟨cb, 2, none⟩ = some (.int .i64 (M.getD k (0, 0)).2) := by rw [cell_of_blk hcur.blk]; rfl
      have Hn1 := Lib.hid hn1
      clear hn1 hdk HHM
      generalize M.getD k (0, 0) = q at *
      obtain ⟨qx, qy⟩ := q
      dsimp only at hy hR e1 e2
      have HcK := Lib.hid hcur
      have HjK := Lib.hid hjk
      clear hcur hjk
      gi_wp2
      refine ⟨rfl, hR.mono ?_⟩
      rintro e W3 (⟨rfl, hJ3, hd3, hc3⟩ | ⟨rfl, hJx3⟩)
      · have f2 := Lib.hid (callsIn_wide (n := 0).2 (next_any w1 W3 cb cv ls (qx, qy) true hc3 Hok.out rfl))
        have HIt3 : Hid (∃ cs t fr, W3.heap[cb]? = some (.cells cs t fr)) := ⟨_, _, _, hc3.blk⟩
        clear hc3 hy hR
        gi_wp2_with fail
        refine ⟨trivial, rfl, ?_⟩
        refine f2.out.mono ?_
        rintro e w6 ⟨rfl, hc6, hg6⟩
        have hj6 := HJ.out (k + 1) W3 w6 hJ3 ⟨hg6, HIt3.out⟩
        have d6 : w6.cell? ⟨s, 0, none⟩ = some (.pointer (some ⟨cb, 0, none⟩)) := cell_grown hg6 hd3 hs
        have Hc6 := Lib.hid hc6
        have D6 := Lib.hid d6
        have HJ6 := Lib.hid hj6
        clear hc6 hg6 hd3 hJ3 hj6 d6 f2
        gi_wp2
        gi_roundg (N - (k + 1) + 1)
        case measure => omega
        case rel =>
          refine ⟨k + 1, by omega, rfl, HJ6.out, D6.out, ?_⟩
          rcases Hn1.out with ⟨q, e⟩ | ⟨q, e⟩
          · have e' : curNext ls (qx, qy).1 = (M.getD (k + 1) (0, 0), true) := e
            exact .inl ⟨q, by rw [e'], by have := Hc6.out; rw [e'] at this; exact this⟩
          · have e' : curNext ls (qx, qy).1 = ((0, 0), false) := e
            exact .inr ⟨q, by rw [e']⟩
      · gi_wp2
        go_end0
        exact ⟨⟨_, rfl⟩, .inr ⟨k, hkN, hJx3⟩⟩
    · gi_wp2
      refine ⟨fun f h => (by cases h), ?_⟩
      gi_wp2
      go_end0
      exact ⟨⟨_, rfl⟩, .inl hjk⟩
end Go.Proofs.Ytcgkpbhoiaeolaa.Tithe
