/- What is so between the steps of chapter 17's play. -/
import Derived.Test.YtcmndnglmpkpdaaDoorLevPlayC
import Derived.Test.YtcmndnglmpkpdaaDoorRefOver
namespace Go.Proofs.YtcmndnglmpkpdaaDoor.Tithe
open Go.RowKit Go.Sort Go.Shelf
set_option linter.unusedVariables false
set_option linter.unusedSimpArgs false
set_option maxRecDepth 100000
theorem refKey17_any (x : Ky) (w : World) : Calls Tryd.prog 22 #[.agg #[.string x.u, .int .i64 x.s, .int .i64 x.k]] w fun e w' => e = .returned (.agg #[.string x.u, .int .i64 x.s, .int .i64 x.k]) ∧ Below w.heap.size w w' := by
  obtain ⟨u, s, k⟩ := x
  dsimp only
  go_enter Tryd.func22, Tryd.ntmps22
  go_wp2
  refine bodyPost_ret (v := .agg #[.string u, .int .i64 s, .int .i64 k]) (by simp [results, Tryd.results22, go_sem]) rfl ⟨rfl, ?_⟩
  exact (((Below.refl _ _).alloc (Nat.le_refl _) _).alloc (by simp) _)
theorem pl_bel {w W : World} {v : Value} {l : List (Int × Mr)} (h : IsPl w v l) (hb : Below w.heap.size w W) : IsPl W v l := ⟨h.1.below hb, fun r hr => (h.2 r hr).below hb⟩
theorem ed_bel {w W : World} {e : Ed} (h : EdIn w e) (hb : Below w.heap.size w W) : EdIn W e := ⟨pl_bel h.1 hb, h.2.below hb⟩
theorem eds_bel {w W : World} {v : Value} {l : List Ed} (h : IsEd w v l) (hb : Below w.heap.size w W) : IsEd W v l := ⟨h.1.below hb, fun r hr => ed_bel (h.2 r hr) hb⟩
theorem isVn_agg' {W : World} {U : Vn} (h : IsVn W U) : ∃ a0 n0 c0 a1 n1 c1 a2 n2 c2 a3 n3 c3, U.cells = #[.slice a0 n0 c0, .slice a1 n1 c1, .slice a2 n2 c2, .slice a3 n3 c3] := by
  obtain ⟨a0, n0, c0, a1, n1, c1, a2, n2, c2, a3, n3, c3, e0, e1, e2, e3⟩ := isVn_sl h
  exact ⟨a0, n0, c0, a1, n1, c1, a2, n2, c2, a3, n3, c3, by unfold Vn.cells; rw [e0, e1, e2, e3]⟩
/-- what this play answers -/
def PkOut (w : World) (l : List Ed) (e : Ending) (w' : World) : Prop := if smallB l = true then PlOut w l e w' else ∃ a0 n0 c0 a1 n1 c1 a2 n2 c2 a3 n3 c3 p, e = .returned (.tuple #[.agg #[.slice a0 n0 c0, .slice a1 n1 c1, .slice a2 n2 c2, .slice a3 n3 c3], .pointer p, .bool false]) ∧ Below w.heap.size w w'
theorem pkOut_no {w w' : World} {l : List Ed} {a0 a1 a2 a3 : Option Addr} {n0 c0 n1 c1 n2 c2 n3 c3 : Nat} {p : Option Addr} (h : smallB l = false) (hb : Below w.heap.size w w') : PkOut w l (.returned (.tuple #[.agg #[.slice a0 n0 c0, .slice a1 n1 c1, .slice a2 n2 c2, .slice a3 n3 c3], .pointer p, .bool false])) w' := by
  unfold PkOut; rw [if_neg (by rw [h]; decide)]; exact ⟨a0, n0, c0, a1, n1, c1, a2, n2, c2, a3, n3, c3, p, rfl, hb⟩
theorem pkOut_yes {w w' : World} {l : List Ed} {e : Ending} (h : smallB l = true) (hp : PlOut w l e w') : PkOut w l e w' := by
  unfold PkOut; rw [if_pos h]; exact hp
theorem smallB_long {l : List Ed} (h : 40 < l.length) : smallB l = false := by
  unfold smallB; rw [decide_eq_false (by omega), Bool.and_false]
theorem playP_okp {l : List Ed} : ∀ k, k ≤ l.length → (l.take k).all edSmall = true → LvS (playP l k) (10 * k) ∧ verOkP (playP l k) = true
  | 0, _, _ => ⟨fun n hn => ⟨Nat.zero_le _, fun m hm => by cases hm⟩, show verOkP (fun _ => []) = true by decide⟩
  | k + 1, hk, ha => by
    have he : l[k]? = some l[k] := List.getElem?_eq_getElem (by omega)
    rw [List.take_add_one, he, List.all_append, Bool.and_eq_true] at ha
    have hs : edSmall l[k] = true := by simpa using ha.2
    obtain ⟨h1, h2⟩ := playP_okp k (by omega) ha.1
    rw [playP_succ he]
    unfold stepP
    cases hap : applyP (playP l k) (l[k]).zs (psM (l[k]).ps) with
    | none => exact ⟨fun n hn => ⟨Nat.le_trans (h1 n hn).1 (by omega), (h1 n hn).2⟩, h2⟩
    | some A =>
      obtain ⟨h3, h4⟩ := applyP_small h1 (psM_small hs) hap
      have hq := (edSmall_ps hs).1
      rw [psM_len] at h3
      exact ⟨fun n hn => ⟨Nat.le_trans (h3 n hn).1 (by omega), (h3 n hn).2⟩, h4⟩
/-! ### the edits -/
structure PjI (w : World) (U : Vn) (L : Lv) (W : World) : Prop where
  res : W.heap[w.heap.size]? = some (.cells Vn.none.cells 26 (0, 0))
  cv : W.heap[w.heap.size + 1]? = some (.cells U.cells 26 (0, 0))
  cx : W.heap[w.heap.size + 1 + 1]? = some (.cells Vn.none.cells 68 (0, 0))
  vu : IsVn W U
  eu : LvE (lvOf U.l) L
  bel : Below w.heap.size w W
theorem PjI.below {w W W' : World} {U : Vn} {L : Lv} (h : PjI w U L W) (hb : Below W.heap.size W W') : PjI w U L W' :=
  ⟨blk_bels hb h.res, blk_bels hb h.cv, blk_bels hb h.cx, h.vu.below hb, h.eu, h.bel.trans (hb.mono h.bel.size)⟩
theorem PjI.next {w W : World} {U U' : Vn} {L L' : Lv} (h : PjI w U L W) (hu : IsVn W U') (eu : LvE (lvOf U'.l) L') :
    PjI w U' L' ((((W.setCell ⟨w.heap.size + 1, 0, none⟩ (U'.v 0)).setCell ⟨w.heap.size + 1, 1, none⟩ (U'.v 1)).setCell ⟨w.heap.size + 1, 2, none⟩ (U'.v 2)).setCell ⟨w.heap.size + 1, 3, none⟩ (U'.v 3)) := by
  have far : ∀ {b : Nat} {ob : Obj}, b ≠ w.heap.size + 1 → W.heap[b]? = some ob → ((((W.setCell ⟨w.heap.size + 1, 0, none⟩ (U'.v 0)).setCell ⟨w.heap.size + 1, 1, none⟩ (U'.v 1)).setCell ⟨w.heap.size + 1, 2, none⟩ (U'.v 2)).setCell ⟨w.heap.size + 1, 3, none⟩ (U'.v 3)).heap[b]? = some ob := by
    intro b ob hne hb
    rw [Below.heap_setCell _ ⟨w.heap.size + 1, 3, none⟩ _ b hne, Below.heap_setCell _ ⟨w.heap.size + 1, 2, none⟩ _ b hne, Below.heap_setCell _ ⟨w.heap.size + 1, 1, none⟩ _ b hne, Below.heap_setCell _ ⟨w.heap.size + 1, 0, none⟩ _ b hne]
    exact hb
  have hs := isVn_slv h.vu
  have f := fun {Y : Vn} (hY : IsVn W Y) => isVn_far4 (x3 := U'.v 3) hY h.cv hs (vn_slv0 hu (n := 0) (by omega)) (vn_slv0 hu (n := 1) (by omega)) (vn_slv0 hu (n := 2) (by omega))
  refine ⟨far (by omega) h.res, set4g rfl h.cv _ _ _ _, far (by omega) h.cx, f hu, eu, ?_⟩
  exact (((h.bel.setCell (p := ⟨w.heap.size + 1, 0, none⟩) (by simp) _).setCell (p := ⟨w.heap.size + 1, 1, none⟩) (by simp) _).setCell (p := ⟨w.heap.size + 1, 2, none⟩) (by simp) _).setCell (p := ⟨w.heap.size + 1, 3, none⟩) (by simp) _
/-- the version is handed back -/
theorem ret_ver {w W : World} {U : Vn} (hr : W.heap[w.heap.size]? = some (.cells Vn.none.cells 26 (0, 0))) (hb : Below w.heap.size w W) :
    ((((W.setCell ⟨w.heap.size, 0, none⟩ (U.v 0)).setCell ⟨w.heap.size, 1, none⟩ (U.v 1)).setCell ⟨w.heap.size, 2, none⟩ (U.v 2)).setCell ⟨w.heap.size, 3, none⟩ (U.v 3)).heap[w.heap.size]? = some (.cells U.cells 26 (0, 0)) ∧
    Below w.heap.size w ((((W.setCell ⟨w.heap.size, 0, none⟩ (U.v 0)).setCell ⟨w.heap.size, 1, none⟩ (U.v 1)).setCell ⟨w.heap.size, 2, none⟩ (U.v 2)).setCell ⟨w.heap.size, 3, none⟩ (U.v 3)) :=
  ⟨set4g rfl hr _ _ _ _, (((hb.setCell (p := ⟨w.heap.size, 0, none⟩) (Nat.le_refl _) _).setCell (p := ⟨w.heap.size, 1, none⟩) (Nat.le_refl _) _).setCell (p := ⟨w.heap.size, 2, none⟩) (Nat.le_refl _) _).setCell (p := ⟨w.heap.size, 3, none⟩) (Nat.le_refl _) _⟩
/-! ### all is kept but one block -/
structure KeptBut (ob : Nat) (W W' : World) : Prop where
  size : W.heap.size ≤ W'.heap.size
  same : ∀ (b : Nat) (x : Obj), b ≠ ob → W.heap[b]? = some x → W'.heap[b]? = some x
theorem KeptBut.refl (ob : Nat) (W : World) : KeptBut ob W W := ⟨Nat.le_refl _, fun _ _ _ h => h⟩
theorem KeptBut.trans {ob : Nat} {A B C : World} (h : KeptBut ob A B) (k : KeptBut ob B C) : KeptBut ob A C := ⟨Nat.le_trans h.size k.size, fun b x hb hx => k.same b x hb (h.same b x hb hx)⟩
theorem KeptBut.of_below {ob : Nat} {A B : World} (h : Below A.heap.size A B) : KeptBut ob A B := ⟨h.size, fun b x _ hx => blk_bels h hx⟩
theorem isSl_kept {α : Type} {enc : α → List Value} {sz : Nat} {W W' : World} {v : Value} {l : List α} {ob : Nat} {cs : Array Value} {t : TypeId} {fr : Nat × Nat} (h : IsSl enc sz W v l) (hb : W.heap[ob]? = some (.cells cs t fr)) (hs : Slv cs) (hz : ∀ x, ∃ q, (enc x)[0]? = some (.int .i64 q)) (hk : KeptBut ob W W') : IsSl enc sz W' v l := by
  obtain ⟨a, c, e, h1, h2, h3⟩ := h
  refine ⟨a, c, e, h1, h2, fun hl => ?_⟩
  obtain ⟨b, off, ea, hc⟩ := h3 hl
  refine ⟨b, off, ea, fun i x hx j y hy => ?_⟩
  have hne : b ≠ ob := by
    rintro rfl
    obtain ⟨q, hq⟩ := hz x
    have h0 := hc i x hx 0 _ hq
    rw [cell_of_blk hb] at h0
    obtain ⟨a', n', c', e'⟩ := hs _ _ h0
    cases e'
  have hcell := hc i x hx j y hy
  have hlt := block_lt_of_cell hcell
  have hh : W'.heap[b]? = W.heap[b]? := by rw [Array.getElem?_eq_getElem hlt]; exact hk.same b _ hne (Array.getElem?_eq_getElem hlt)
  rw [← hcell]
  simp only [World.cell?, hh]
theorem isMr_kept {W W' : World} {v : Value} {l : List Mr} {ob : Nat} {cs : Array Value} {t : TypeId} {fr : Nat × Nat} (h : IsMr W v l) (hb : W.heap[ob]? = some (.cells cs t fr)) (hs : Slv cs) (hk : KeptBut ob W W') : IsMr W' v l :=
  ⟨isSl_kept h.1 hb hs (fun x => ⟨_, rfl⟩) hk, fun r hr => isSl_kept (h.2 r hr) hb hs (fun x => ⟨_, rfl⟩) hk⟩
/-! ### the document's version is filled -/
structure XqI (w : World) (U X : Vn) (n : Nat) (W : World) : Prop where
  res : W.heap[w.heap.size]? = some (.cells Vn.none.cells 26 (0, 0))
  cv : W.heap[w.heap.size + 1]? = some (.cells U.cells 26 (0, 0))
  cx : W.heap[w.heap.size + 1 + 1]? = some (.cells X.cells 68 (0, 0))
  vu : IsVn W U
  vx : IsVn W X
  lo : ∀ k, k < n → (X.l k).map (·.1) = (U.l k).map (·.1)
  hi : ∀ k, n ≤ k → X.v k = .slice none 0 0 ∧ X.l k = []
  bel : Below w.heap.size w W
structure RwI (w W0 : World) (X : Vn) (n : Nat) (lu : List Mr) (i : Nat) (xa : Option Addr) (xc : Nat) (rows : List Mr) (W : World) : Prop where
  cx : W.heap[w.heap.size + 1 + 1]? = some (.cells (X.upd n (.slice xa i xc) rows).cells 68 (0, 0))
  own : OwnM15 W W0.heap.size (.slice xa i xc) rows
  refs : ∀ r ∈ rows, OwnRx W W0.heap.size r.2 r.1.refs
  eq : rows.map (·.1) = (lu.take i).map (·.1)
  kept : KeptBut (w.heap.size + 1 + 1) W0 W
  bel : Below w.heap.size w W
theorem upd_nil {X : Vn} {n : Nat} (hn : n < 4) (h : X.v n = .slice none 0 0 ∧ X.l n = []) : (X.upd n (.slice none 0 0) []).cells = X.cells := by
  match n, hn with
  | 0, _ => unfold Vn.cells; rw [upd_v, upd_v, upd_v, upd_v]; simp [h.1]
  | 1, _ => unfold Vn.cells; rw [upd_v, upd_v, upd_v, upd_v]; simp [h.1]
  | 2, _ => unfold Vn.cells; rw [upd_v, upd_v, upd_v, upd_v]; simp [h.1]
  | 3, _ => unfold Vn.cells; rw [upd_v, upd_v, upd_v, upd_v]; simp [h.1]
theorem upd_again {X : Vn} {n : Nat} (hn : n < 4) (v v' : Value) (l l' : List Mr) : ((X.upd n v l).cells).setIfInBounds n v' = (X.upd n v' l').cells := by
  rw [upd_cells _ hn (l := l')]
  unfold Vn.cells
  rw [upd_v, upd_v, upd_v, upd_v, upd_v, upd_v, upd_v, upd_v, upd_v, upd_v, upd_v, upd_v]
  congr 1
  match n, hn with
  | 0, _ => rfl
  | 1, _ => rfl
  | 2, _ => rfl
  | 3, _ => rfl
theorem XqI.start {w W : World} {U : Vn} {L : Lv} (h : PjI w U L W) : XqI w U Vn.none 0 W :=
  ⟨h.res, h.cv, h.cx, h.vu, (ownVn_none _ 0).isVn, fun k hk => absurd hk (by omega), fun k _ => ⟨rfl, rfl⟩, h.bel⟩
theorem RwI.start {w W : World} {U X : Vn} {n : Nat} (h : XqI w U X n W) (hn : n < 4) : RwI w W X n (U.l n) 0 none 0 [] W :=
  ⟨by rw [upd_nil hn (h.hi n (Nat.le_refl _))]; exact h.cx, World.ownsRow_nil _ _ _ _, fun r hr => (by cases hr), by rw [List.take_zero], KeptBut.refl _ _, h.bel⟩
theorem RwI.end {w W0 W : World} {U X : Vn} {n i : Nat} {xa : Option Addr} {xc : Nat} {rows : List Mr} (h0 : XqI w U X n W0) (hn : n < 4) (hi : i = (U.l n).length) (h : RwI w W0 X n (U.l n) i xa xc rows W) : XqI w U (X.upd n (.slice xa i xc) rows) (n + 1) W := by
  have hs := isVn_slv h0.vx
  refine ⟨h.kept.same _ _ (by omega) h0.res, h.kept.same _ _ (by omega) h0.cv, h.cx, fun m hm => isMr_kept (h0.vu m hm) h0.cx hs h.kept, fun m hm => ?_, fun k hk => ?_, fun k hk => ?_, h.bel⟩
  · rw [upd_v, upd_l]
    by_cases e : m = n
    · rw [if_pos e, if_pos e]
      have hlen := own_n h.own
      refine ⟨isSl_own mrC_len (by have := h.own; unfold OwnM15 at this; exact this), fun r hr => isSl_own rfC_len (h.refs r hr)⟩
    · rw [if_neg e, if_neg e]; exact isMr_kept (h0.vx m hm) h0.cx hs h.kept
  · rw [upd_l]
    by_cases e : k = n
    · rw [if_pos e, h.eq, hi, e, List.take_length]
    · rw [if_neg e]; exact h0.lo k (by omega)
  · rw [upd_v, upd_l, if_neg (by omega), if_neg (by omega)]; exact h0.hi k (by omega)
theorem RwI.below {w W0 W W' : World} {X : Vn} {n i : Nat} {lu : List Mr} {xa : Option Addr} {xc : Nat} {rows : List Mr} (h : RwI w W0 X n lu i xa xc rows W) (hb : Below W.heap.size W W') : RwI w W0 X n lu i xa xc rows W' :=
  ⟨blk_bels hb h.cx, own_below h.own hb, fun r hr => own_below (h.refs r hr) hb, h.eq, h.kept.trans (KeptBut.of_below hb), h.bel.trans (hb.mono h.bel.size)⟩
/-- one more row: appended and stored -/
theorem RwI.push {w W0 W w2 : World} {X : Vn} {n i : Nat} {lu : List Mr} {xa ya : Option Addr} {xc yc : Nat} {rows : List Mr} {r : Mr} {cs : Array Value} (h : RwI w W0 X n lu i xa xc rows W) (hn : n < 4) (hw : w.heap.size + 1 + 1 < W0.heap.size) (hr : OwnRx W W0.heap.size r.2 r.1.refs) (he : lu[i]?.map (·.1) = some r.1)
    (hown : OwnM15 w2 W0.heap.size (.slice ya (i + 1) yc) (rows ++ [r])) (hg : (W.alloc (.cells cs 73)).grownBy w2 (Value.slice xa i xc).ownBlock) :
    RwI w W0 X n lu (i + 1) ya yc (rows ++ [r]) (w2.setCell ⟨w.heap.size + 1 + 1, n, none⟩ (.slice ya (i + 1) yc)) ∧ w2.heap[w.heap.size + 1 + 1]? = some (.cells (X.upd n (.slice xa i xc) rows).cells 68 (0, 0)) := by
  have hA : Below W.heap.size W (W.alloc (.cells cs 73)) := (Below.refl _ _).alloc (Nat.le_refl _) _
  have hownA : OwnM15 (W.alloc (.cells cs 73)) W0.heap.size (.slice xa i xc) rows := own_below h.own hA
  have hlow : ∀ g, (Value.slice xa i xc).ownBlock = some g → W0.heap.size ≤ g := fun g e => (hownA.lt g e).1
  have hty : ∀ g, (Value.slice xa i xc).ownBlock = some g → ∃ cur t fr, (W.alloc (.cells cs 73)).heap[g]? = some (.cells cur t fr) ∧ t ≠ 76 := fun g e => by
    obtain ⟨cur, hc⟩ := own_rowblk hownA g e
    exact ⟨cur, _, _, hc, by decide⟩
  have hx2 : w2.heap[w.heap.size + 1 + 1]? = some (.cells (X.upd n (.slice xa i xc) rows).cells 68 (0, 0)) :=
    (hg.block _ (blk_lt (blk_bels hA h.cx)) (fun e => by have := hlow _ e.symm; omega)).trans (blk_bels hA h.cx)
  refine ⟨⟨?_, ?_, fun q hq => ?_, ?_, ?_, ?_⟩, hx2⟩
  · rw [blk_set hx2, upd_again hn]
  · exact own_far hown (grown_set w2 (w.heap.size + 1 + 1) n (.slice ya (i + 1) yc)) (fun r e => by cases e; exact hw)
  · refine own_far ?_ (grown_set w2 (w.heap.size + 1 + 1) n (.slice ya (i + 1) yc)) (fun r e => by cases e; exact hw)
    rcases List.mem_append.1 hq with hq | hq
    · exact own_typed (own_below (h.refs q hq) hA) hg hty
    · rw [List.mem_singleton.1 hq]; exact own_typed (own_below hr hA) hg hty
  · rw [List.map_append, h.eq, List.take_add_one, List.map_append]
    congr 1
    cases hl : lu[i]? with
    | none => rw [hl] at he; cases he
    | some x => rw [hl] at he; injection he with he; simp [he]
  · refine ⟨by rw [World.size_setCell]; exact Nat.le_trans (Nat.le_trans h.kept.size hA.size) hg.size, fun b x hb hx => ?_⟩
    have h1 := blk_bels hA (h.kept.same b x hb hx)
    have hlt := blk_lt hx
    exact (Below.heap_setCell _ ⟨w.heap.size + 1 + 1, n, none⟩ _ b hb).trans ((hg.block b (blk_lt h1) (fun e => by have := hlow b e.symm; omega)).trans h1)
  · refine Below.setCell ?_ (by simp; omega) _
    exact ((h.bel.trans (hA.mono h.bel.size)).grown hg (Nat.le_trans h.bel.size hA.size) (fun g e => by have := hlow g e; omega))
theorem XqI.final {w W : World} {U X : Vn} {l : List Ed} (h : XqI w U X 4 W) (eu : LvE (lvOf U.l) (playP l l.length)) :
    ((((W.setCell ⟨w.heap.size, 0, none⟩ (U.v 0)).setCell ⟨w.heap.size, 1, none⟩ (U.v 1)).setCell ⟨w.heap.size, 2, none⟩ (U.v 2)).setCell ⟨w.heap.size, 3, none⟩ (U.v 3)).heap[w.heap.size]? = some (.cells U.cells 26 (0, 0)) ∧
    PlOut w l (.returned (.tuple #[.agg U.cells, .pointer (some ⟨w.heap.size + 1 + 1, 0, none⟩), .bool true])) ((((W.setCell ⟨w.heap.size, 0, none⟩ (U.v 0)).setCell ⟨w.heap.size, 1, none⟩ (U.v 1)).setCell ⟨w.heap.size, 2, none⟩ (U.v 2)).setCell ⟨w.heap.size, 3, none⟩ (U.v 3)) := by
  have hs : Slv Vn.none.cells := isVn_slv (w := W) (U := Vn.none) ((ownVn_none W W.heap.size).isVn)
  have f := fun {Y : Vn} (hY : IsVn W Y) => isVn_far4 (x3 := U.v 3) hY h.res hs (vn_slv0 h.vu (n := 0) (by omega)) (vn_slv0 h.vu (n := 1) (by omega)) (vn_slv0 h.vu (n := 2) (by omega))
  have hne : w.heap.size + 1 + 1 ≠ w.heap.size := by omega
  obtain ⟨h1, h2⟩ := ret_ver (U := U) h.res h.bel
  refine ⟨h1, U, X, w.heap.size + 1 + 1, rfl, ?_, f h.vu, f h.vx, eu, fun k hk => (h.lo k hk).trans (eu k hk), by omega, h2⟩
  rw [Below.heap_setCell _ ⟨w.heap.size, 3, none⟩ _ _ hne, Below.heap_setCell _ ⟨w.heap.size, 2, none⟩ _ _ hne, Below.heap_setCell _ ⟨w.heap.size, 1, none⟩ _ _ hne, Below.heap_setCell _ ⟨w.heap.size, 0, none⟩ _ _ hne]
  exact h.cx
end Go.Proofs.YtcmndnglmpkpdaaDoor.Tithe
