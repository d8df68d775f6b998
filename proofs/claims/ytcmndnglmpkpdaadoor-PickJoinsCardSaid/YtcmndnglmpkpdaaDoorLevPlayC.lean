/- What is so between play's steps. -/
import Derived.Test.YtcmndnglmpkpdaaDoorLevPlayP
import Derived.Test.YtcmndnglmpkpdaaDoorLevSame
import Derived.Test.YtcmndnglmpkpdaaDoorLevApply
namespace Go.Proofs.YtcmndnglmpkpdaaDoor.Tithe
open Go.RowKit Go.Sort Go.Shelf
set_option linter.unusedVariables false
set_option linter.unusedSimpArgs false
set_option maxRecDepth 100000
/-! ### rows of the document's places of a call's own -/
theorem mtSmall_refs {m : Mt} (h : mtSmall m) : m.refs.length ≤ 1000000 := by have := h.1; omega
/-! ### the two versions -/
structure PyI (w : World) (U X : Vn) (xb : Nat) (L : Lv) (W : World) : Prop where
  res : W.heap[w.heap.size]? = some (.cells Vn.none.cells 26 (0, 0))
  cv : W.heap[w.heap.size + 1]? = some (.cells U.cells 26 (0, 0))
  cx : W.heap[xb]? = some (.cells X.cells 68 (0, 0))
  vu : IsVn W U
  vx : IsVn W X
  eu : LvE (lvOf U.l) L
  ex : LvE (lvOf X.l) L
  hx : w.heap.size + 2 ≤ xb
  bel : Below w.heap.size w W
theorem PyI.below {w W W' : World} {U X : Vn} {xb : Nat} {L : Lv} (h : PyI w U X xb L W) (hb : Below W.heap.size W W') : PyI w U X xb L W' :=
  ⟨blk_bels hb h.res, blk_bels hb h.cv, blk_bels hb h.cx, h.vu.below hb, h.vx.below hb, h.eu, h.ex, h.hx, h.bel.trans (hb.mono h.bel.size)⟩
theorem isVn_sl {W : World} {U : Vn} (h : IsVn W U) : ∃ a0 n0 c0 a1 n1 c1 a2 n2 c2 a3 n3 c3, U.v 0 = .slice a0 n0 c0 ∧ U.v 1 = .slice a1 n1 c1 ∧ U.v 2 = .slice a2 n2 c2 ∧ U.v 3 = .slice a3 n3 c3 := by
  obtain ⟨a0, c0, e0⟩ := isMr_slice (h 0 (by omega))
  obtain ⟨a1, c1, e1⟩ := isMr_slice (h 1 (by omega))
  obtain ⟨a2, c2, e2⟩ := isMr_slice (h 2 (by omega))
  obtain ⟨a3, c3, e3⟩ := isMr_slice (h 3 (by omega))
  exact ⟨a0, _, c0, a1, _, c1, a2, _, c2, a3, _, c3, e0, e1, e2, e3⟩
theorem isVn_far {W : World} {U : Vn} {ob n : Nat} {cs : Array Value} {t : TypeId} {fr : Nat × Nat} {u : Value} (h : IsVn W U) (hb : W.heap[ob]? = some (.cells cs t fr)) (hs : Slv cs) : IsVn (W.setCell ⟨ob, n, none⟩ u) U := fun m hm => isMr_far (h m hm) hb hs
theorem isVn_far4 {W : World} {U : Vn} {ob : Nat} {cs : Array Value} {t : TypeId} {fr : Nat × Nat} {x0 x1 x2 x3 : Value} (h : IsVn W U) (hb : W.heap[ob]? = some (.cells cs t fr)) (hs : Slv cs) (h0 : ∃ a n c, x0 = Value.slice a n c) (h1 : ∃ a n c, x1 = Value.slice a n c) (h2 : ∃ a n c, x2 = Value.slice a n c) :
    IsVn ((((W.setCell ⟨ob, 0, none⟩ x0).setCell ⟨ob, 1, none⟩ x1).setCell ⟨ob, 2, none⟩ x2).setCell ⟨ob, 3, none⟩ x3) U := by
  have hs' : ∀ {cs : Array Value} {i : Nat} {x : Value}, Slv cs → (∃ a n c, x = Value.slice a n c) → Slv (cs.setIfInBounds i x) := by
    intro cs i x hs hx j y hy
    by_cases e : i = j
    · subst e
      rw [Array.getElem?_setIfInBounds_self] at hy
      split at hy
      · cases hy; exact hx
      · cases hy
    · rw [Array.getElem?_setIfInBounds_ne (by omega)] at hy
      exact hs j y hy
  have b0 := hb
  have f0 := isVn_far (n := 0) (u := x0) h b0 hs
  have b1 : (W.setCell ⟨ob, 0, none⟩ x0).heap[ob]? = _ := blk_set b0
  have f1 := isVn_far (n := 1) (u := x1) f0 b1 (hs' hs h0)
  have b2 : ((W.setCell ⟨ob, 0, none⟩ x0).setCell ⟨ob, 1, none⟩ x1).heap[ob]? = _ := blk_set b1
  have f2 := isVn_far (n := 2) (u := x2) f1 b2 (hs' (hs' hs h0) h1)
  have b3 : (((W.setCell ⟨ob, 0, none⟩ x0).setCell ⟨ob, 1, none⟩ x1).setCell ⟨ob, 2, none⟩ x2).heap[ob]? = _ := blk_set b2
  exact isVn_far (n := 3) (u := x3) f2 b3 (hs' (hs' (hs' hs h0) h1) h2)
theorem vn_slv0 {W : World} {U : Vn} (h : IsVn W U) {n : Nat} (hn : n < 4) : ∃ a k c, U.v n = Value.slice a k c := by
  obtain ⟨a, c, e⟩ := isMr_slice (h n hn); exact ⟨a, _, c, e⟩
/-- the version becomes another one, and the document's too -/
theorem PyI.next {w W : World} {U X U' X' : Vn} {xb xb' : Nat} {L L' : Lv} (h : PyI w U X xb L W) (hu : IsVn W U') (hx : IsVn W X') (cx : W.heap[xb']? = some (.cells X'.cells 68 (0, 0))) (eu : LvE (lvOf U'.l) L') (ex : LvE (lvOf X'.l) L') (hxb : w.heap.size + 2 ≤ xb') :
    PyI w U' X' xb' L' ((((W.setCell ⟨w.heap.size + 1, 0, none⟩ (U'.v 0)).setCell ⟨w.heap.size + 1, 1, none⟩ (U'.v 1)).setCell ⟨w.heap.size + 1, 2, none⟩ (U'.v 2)).setCell ⟨w.heap.size + 1, 3, none⟩ (U'.v 3)) := by
  have far : ∀ {b : Nat} {ob : Obj}, b ≠ w.heap.size + 1 → W.heap[b]? = some ob → ((((W.setCell ⟨w.heap.size + 1, 0, none⟩ (U'.v 0)).setCell ⟨w.heap.size + 1, 1, none⟩ (U'.v 1)).setCell ⟨w.heap.size + 1, 2, none⟩ (U'.v 2)).setCell ⟨w.heap.size + 1, 3, none⟩ (U'.v 3)).heap[b]? = some ob := by
    intro b ob hne hb
    rw [Below.heap_setCell _ ⟨w.heap.size + 1, 3, none⟩ _ b hne, Below.heap_setCell _ ⟨w.heap.size + 1, 2, none⟩ _ b hne, Below.heap_setCell _ ⟨w.heap.size + 1, 1, none⟩ _ b hne, Below.heap_setCell _ ⟨w.heap.size + 1, 0, none⟩ _ b hne]
    exact hb
  have hs := isVn_slv h.vu
  have f := fun {Y : Vn} (hY : IsVn W Y) => isVn_far4 (x3 := U'.v 3) hY h.cv hs (vn_slv0 hu (n := 0) (by omega)) (vn_slv0 hu (n := 1) (by omega)) (vn_slv0 hu (n := 2) (by omega))
  refine ⟨far (by omega) h.res, set4g rfl h.cv _ _ _ _, far (by omega) cx, f hu, f hx, eu, ex, hxb, ?_⟩
  exact (((h.bel.setCell (p := ⟨w.heap.size + 1, 0, none⟩) (by simp) _).setCell (p := ⟨w.heap.size + 1, 1, none⟩) (by simp) _).setCell (p := ⟨w.heap.size + 1, 2, none⟩) (by simp) _).setCell (p := ⟨w.heap.size + 1, 3, none⟩) (by simp) _
/-! ### Apply, the law's and the document's, at small levels -/
theorem LvS.mono {L : Lv} {B B' : Nat} (h : LvS L B) (hB : B ≤ B') : LvS L B' := fun n hn => ⟨Nat.le_trans (h n hn).1 hB, (h n hn).2⟩
theorem vapply_s {U : Vn} {L : Lv} {va vd : Value} {ps : List (Int × Mr)} {zs : List Int} {W : World} (hu : IsVn W U) (eu : LvE (lvOf U.l) L) (hS : LvS L 2000) (hv : verOkP L = true) (hpl : IsPl W va ps) (hdz : IsDz W vd zs) (hps : ps.length ≤ 1000) (hsm : ∀ p ∈ ps, mtSmall p.2.1) :
    Calls Tryd.prog 19 #[.agg U.cells, .agg #[va, vd]] W fun e w' => Hid (ApOut W U zs (psM ps) e w') := by
  obtain ⟨h1, h2⟩ := lvS_tabs hS eu
  exact vapply_any U va vd ps zs W hu (lvE_ver hv eu) (by omega) (fun p hp => mtSmall_refs (h2 p hp)) hpl hdz (by omega) (fun p hp => mtSmall_refs (hsm p hp))
theorem vapply_no {U : Vn} {L : Lv} {va vd : Value} {ps : List (Int × Mr)} {zs : List Int} {W : World} (hu : IsVn W U) (eu : LvE (lvOf U.l) L) (hS : LvS L 2000) (hv : verOkP L = true) (hpl : IsPl W va ps) (hdz : IsDz W vd zs) (hps : ps.length ≤ 1000) (hsm : ∀ p ∈ ps, mtSmall p.2.1) (hn : applyP L zs (psM ps) = none) :
    Calls Tryd.prog 19 #[.agg U.cells, .agg #[va, vd]] W fun e w' => e = .returned (.tuple #[.agg Vn.none.cells, .int .i64 150]) ∧ Below W.heap.size W w' := by
  refine (vapply_s hu eu hS hv hpl hdz hps hsm).mono fun e w' q => ?_
  have q := q.out
  unfold ApOut at q
  rw [applyP_none eu hn] at q
  exact q
theorem vapply_yes {U : Vn} {L L' : Lv} {va vd : Value} {ps : List (Int × Mr)} {zs : List Int} {W : World} (hu : IsVn W U) (eu : LvE (lvOf U.l) L) (hS : LvS L 2000) (hv : verOkP L = true) (hpl : IsPl W va ps) (hdz : IsDz W vd zs) (hps : ps.length ≤ 1000) (hsm : ∀ p ∈ ps, mtSmall p.2.1) (hn : applyP L zs (psM ps) = some L') :
    Calls Tryd.prog 19 #[.agg U.cells, .agg #[va, vd]] W fun e w' => ∃ U' : Vn, e = .returned (.tuple #[.agg U'.cells, .int .i64 0]) ∧ OwnVn w' W.heap.size U' ∧ LvE (lvOf U'.l) L' ∧ Below W.heap.size W w' := by
  refine (vapply_s hu eu hS hv hpl hdz hps hsm).mono fun e w' q => ?_
  have q := q.out
  unfold ApOut at q
  obtain ⟨B, hB, hE⟩ := applyP_some eu hn
  rw [hB] at q
  obtain ⟨U', e1, e2, e3, e4⟩ := q
  exact ⟨U', e1, e2, LvE.trans e3 hE, e4⟩
theorem results_row_slot3 {P : Program} {fn : Func} {p q r : Tmp} {ty : TypeId} (h : fn.results = #[.cell p ty, .tmp q, .tmp r]) (tmps : Array Value) (w : World) (g : Nat) (t : TypeId) (cs : Array Value) (fr : Nat × Nat) (d : TypeDesc) (v u : Value)
    (hp : tmps.getD p undef = .pointer (some ⟨g, 0, none⟩)) (hq : tmps.getD q undef = v) (hr : tmps.getD r undef = u) (hg : w.heap[g]? = some (.cells cs t fr))
    (hu : P.underlying ty = some d) (hd : (match d with | .struct _ | .array _ _ => true | _ => false) = true) (hi : (P.info? ty).map (·.size) = some cs.size) :
    (results fn tmps).run P w = .ok (.tuple #[.agg cs, v, u]) w := by
  have hp' : tmps[p]?.getD undef = .pointer (some ⟨g, 0, none⟩) := by simpa using hp
  have hq' : tmps[q]?.getD undef = v := by simpa using hq
  have hr' : tmps[r]?.getD undef = u := by simpa using hr
  simp [results, h, hp', hq', hr', asAddr, run_loadVar_row w g t ty cs fr d hg hu hd hi]
/-- what play answers -/
def PlOut (w : World) (l : List Ed) (e : Ending) (w' : World) : Prop := ∃ (U X : Vn) (xb : Nat), e = .returned (.tuple #[.agg U.cells, .pointer (some ⟨xb, 0, none⟩), .bool true]) ∧ w'.heap[xb]? = some (.cells X.cells 68 (0, 0)) ∧ IsVn w' U ∧ IsVn w' X ∧ LvE (lvOf U.l) (playP l l.length) ∧ LvE (lvOf X.l) (playP l l.length) ∧ w.heap.size ≤ xb ∧ Below w.heap.size w w'
theorem PyI.final {w W : World} {U X : Vn} {xb : Nat} {L : Lv} (h : PyI w U X xb L W) :
    ((((W.setCell ⟨w.heap.size, 0, none⟩ (U.v 0)).setCell ⟨w.heap.size, 1, none⟩ (U.v 1)).setCell ⟨w.heap.size, 2, none⟩ (U.v 2)).setCell ⟨w.heap.size, 3, none⟩ (U.v 3)).heap[w.heap.size]? = some (.cells U.cells 26 (0, 0)) ∧
    ∀ {l : List Ed}, L = playP l l.length → PlOut w l (.returned (.tuple #[.agg U.cells, .pointer (some ⟨xb, 0, none⟩), .bool true])) ((((W.setCell ⟨w.heap.size, 0, none⟩ (U.v 0)).setCell ⟨w.heap.size, 1, none⟩ (U.v 1)).setCell ⟨w.heap.size, 2, none⟩ (U.v 2)).setCell ⟨w.heap.size, 3, none⟩ (U.v 3)) := by
  refine ⟨set4g rfl h.res _ _ _ _, fun hL => ?_⟩
  subst hL
  have hs : Slv Vn.none.cells := isVn_slv (w := W) (U := Vn.none) ((ownVn_none W W.heap.size).isVn)
  have f := fun {Y : Vn} (hY : IsVn W Y) => isVn_far4 (x3 := U.v 3) hY h.res hs (vn_slv0 h.vu (n := 0) (by omega)) (vn_slv0 h.vu (n := 1) (by omega)) (vn_slv0 h.vu (n := 2) (by omega))
  have hne : xb ≠ w.heap.size := by have := h.hx; omega
  refine ⟨U, X, xb, rfl, ?_, f h.vu, f h.vx, h.eu, h.ex, by have := h.hx; omega, ?_⟩
  · rw [Below.heap_setCell _ ⟨w.heap.size, 3, none⟩ _ xb hne, Below.heap_setCell _ ⟨w.heap.size, 2, none⟩ _ xb hne, Below.heap_setCell _ ⟨w.heap.size, 1, none⟩ _ xb hne, Below.heap_setCell _ ⟨w.heap.size, 0, none⟩ _ xb hne]
    exact h.cx
  · exact (((h.bel.setCell (p := ⟨w.heap.size, 0, none⟩) (Nat.le_refl _) _).setCell (p := ⟨w.heap.size, 1, none⟩) (Nat.le_refl _) _).setCell (p := ⟨w.heap.size, 2, none⟩) (Nat.le_refl _) _).setCell (p := ⟨w.heap.size, 3, none⟩) (Nat.le_refl _) _
end Go.Proofs.YtcmndnglmpkpdaaDoor.Tithe
