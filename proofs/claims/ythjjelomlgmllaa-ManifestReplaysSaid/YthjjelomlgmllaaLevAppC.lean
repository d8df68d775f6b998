/- Version.Apply: what is so between its steps. -/
import Derived.Test.YthjjelomlgmllaaLevAppP
import Derived.Test.YthjjelomlgmllaaLevIns
namespace Go.Proofs.Ythjjelomlgmllaa.Tithe
open Go.RowKit Go.Sort Go.Shelf
set_option linter.unusedVariables false
set_option maxRecDepth 100000
def plC (p : Int × Mr) : List Value := .int .i64 p.1 :: mrC p.2
theorem plC_len (p : Int × Mr) : (plC p).length = 10 := rfl
def dzC (z : Int) : List Value := [.int .i64 z]
theorem dzC_len (z : Int) : (dzC z).length = 1 := rfl
abbrev IsDz (w : World) (v : Value) (l : List Int) : Prop := IsSl dzC 1 w v l
/-- rows of places: a level and a table -/
def IsPl (w : World) (v : Value) (l : List (Int × Mr)) : Prop := IsSl plC 10 w v l ∧ ∀ p ∈ l, IsRr w p.2.2 p.2.1.refs
def psM (ps : List (Int × Mr)) : List (Int × Mt) := ps.map fun p => (p.1, p.2.1)
theorem results_row_slot {P : Program} {fn : Func} {p q : Tmp} {ty : TypeId} (h : fn.results = #[.cell p ty, .tmp q]) (tmps : Array Value) (w : World) (g : Nat) (t : TypeId) (cs : Array Value) (fr : Nat × Nat) (d : TypeDesc) (v : Value)
    (hp : tmps.getD p undef = .pointer (some ⟨g, 0, none⟩)) (hq : tmps.getD q undef = v) (hg : w.heap[g]? = some (.cells cs t fr))
    (hu : P.underlying ty = some d) (hd : (match d with | .struct _ | .array _ _ => true | _ => false) = true) (hi : (P.info? ty).map (·.size) = some cs.size) :
    (results fn tmps).run P w = .ok (.tuple #[.agg cs, v]) w := by
  have hp' : tmps[p]?.getD undef = .pointer (some ⟨g, 0, none⟩) := by simpa using hp
  have hq' : tmps[q]?.getD undef = v := by simpa using hq
  simp [results, h, hp', hq', asAddr, run_loadVar_row w g t ty cs fr d hg hu hd hi]
theorem OwnMs.blk {W W' : World} {base So : Nat} {v : Value} {rows : List Mr} {cs : Array Value} {fr : Nat × Nat} (h : OwnMs W base v rows) (hg : W.grownBy W' (some So)) (hc : W.heap[So]? = some (.cells cs 61 fr)) : OwnMs W' base v rows :=
  ⟨own_typed h.1 hg fun g e => by cases e; exact ⟨_, _, _, hc, by decide⟩, fun r hr => own_typed (h.2 r hr) hg fun g e => by cases e; exact ⟨_, _, _, hc, by decide⟩⟩
theorem OwnVn.blk {W W' : World} {base So : Nat} {V : Vn} {cs : Array Value} {fr : Nat × Nat} (h : OwnVn W base V) (hg : W.grownBy W' (some So)) (hc : W.heap[So]? = some (.cells cs 61 fr)) : OwnVn W' base V := ⟨fun n hn => (h.own n hn).blk hg hc, h.apart⟩
structure ApQ (w : World) (So base : Nat) (cE : Array Value) (U : Vn) (W : World) : Prop where
  out : W.heap[So]? = some (.cells U.cells 61 (0, 0))
  ed : W.heap[w.heap.size + 1]? = some (.cells cE 25 (0, 0))
  res : W.heap[w.heap.size + 1 + 1]? = some (.cells Vn.none.cells 61 (0, 0))
  own : OwnVn W base U
  bel : Below w.heap.size w W
theorem ApQ.below {w W W' : World} {So base : Nat} {cE : Array Value} {U : Vn} (h : ApQ w So base cE U W) (hb : Below W.heap.size W W') : ApQ w So base cE U W' :=
  ⟨blk_bels hb h.out, blk_bels hb h.ed, blk_bels hb h.res, h.own.below hb, h.bel.trans (hb.mono h.bel.size)⟩
theorem ApQ.turn {w W W1 w2 : World} {So base n : Nat} {cE : Array Value} {U : Vn} {x' : Value} {rows' : List Mr} (h : ApQ w So base cE U W) (hn : n < 4) (hs : w.heap.size + 3 ≤ base) (hSo : base ≤ So) (hb : Below W.heap.size W W1) (hg : W1.grownBy w2 (U.v n).ownBlock) (ho : OwnMs w2 base x' rows') (hl : ∀ q, x'.ownBlock = some q → (U.v n).ownBlock = some q ∨ W.heap.size ≤ q) :
    ApQ w So base cE (U.upd n x' rows') (w2.setCell ⟨So, n, none⟩ x') := by
  have h1 := h.below hb
  have hrow : ∀ g, (U.v n).ownBlock = some g → ∃ cur, W1.heap[g]? = some (.cells cur 78 (0, 0)) := own_rowblk (h1.own.own n hn).1
  have hlow : ∀ g, (U.v n).ownBlock = some g → base ≤ g := fun g e => ((h1.own.own n hn).1.lt g e).1
  have hne : some So ≠ (U.v n).ownBlock := by
    intro e
    obtain ⟨cur, hc⟩ := hrow So e.symm
    rw [h1.out] at hc
    injection hc with hc
    injection hc with _ hc _
    exact absurd hc (by decide)
  have hk : ∀ {i : Nat} {ob : Obj}, i < base → W1.heap[i]? = some ob → w2.heap[i]? = some ob := fun {i ob} hi hh => (hg.block i (blk_lt hh) (fun e => by have := hlow i e.symm; omega)).trans hh
  have ho2 : w2.heap[So]? = some (.cells U.cells 61 (0, 0)) := (hg.block So (blk_lt h1.out) (fun e => hne e)).trans h1.out
  refine ⟨?_, ?_, ?_, ?_, ?_⟩
  · rw [blk_set ho2, upd_cells U hn]
  · exact (Below.heap_setCell _ ⟨So, n, none⟩ _ _ (by show w.heap.size + 1 ≠ So; omega)).trans (hk (by omega) h1.ed)
  · exact (Below.heap_setCell _ ⟨So, n, none⟩ _ _ (by show w.heap.size + 1 + 1 ≠ So; omega)).trans (hk (by omega) h1.res)
  · exact (h.own.turned hn hb hg ho hl).blk (grown_set _ _ _ _) ho2
  · exact (h1.bel.grown hg h1.bel.size (fun g e => by have := hlow g e; omega)).setCell (by simp; omega) _
/-- what Apply answers -/
def ApOut (w : World) (V : Vn) (zs : List Int) (pm : List (Int × Mt)) (e : Ending) (w' : World) : Prop :=
  match applyP (lvOf V.l) zs pm with
  | none => e = .returned (.tuple #[.agg Vn.none.cells, .int .i64 150]) ∧ Below w.heap.size w w'
  | some L' => ∃ U : Vn, e = .returned (.tuple #[.agg U.cells, .int .i64 0]) ∧ OwnVn w' w.heap.size U ∧ (∀ n, n < 4 → lvOf U.l n = L' n) ∧ Below w.heap.size w w'
theorem apOut_no {w w' : World} {V : Vn} {zs : List Int} {pm : List (Int × Mt)} (h : applyP (lvOf V.l) zs pm = none) (hb : Below w.heap.size w w') : ApOut w V zs pm (.returned (.tuple #[.agg Vn.none.cells, .int .i64 150])) w' := by
  unfold ApOut; rw [h]; exact ⟨rfl, hb⟩
theorem apOut_yes {w w' : World} {V U : Vn} {zs : List Int} {pm : List (Int × Mt)} {L' : Lv} (h : applyP (lvOf V.l) zs pm = some L') (ho : OwnVn w' w.heap.size U) (hu : ∀ n, n < 4 → lvOf U.l n = L' n) (hb : Below w.heap.size w w') : ApOut w V zs pm (.returned (.tuple #[.agg U.cells, .int .i64 0])) w' := by
  unfold ApOut; rw [h]; exact ⟨U, rfl, ho, hu, hb⟩
theorem apply_drop_no {L : Lv} {zs : List Int} {pm : List (Int × Mt)} {k : Nat} (h : dropsP (L, -1) zs k = none) (hk : k ≤ zs.length) : applyP L zs pm = none := by
  unfold applyP; rw [dropsP_none h _ hk]
theorem apply_add_no {L : Lv} {st : Lv × Int} {zs : List Int} {pm : List (Int × Mt)} {k : Nat} (hd : dropsP (L, -1) zs zs.length = some st) (h : addsP st.1 st.2 pm k = none) (hk : k ≤ pm.length) : applyP L zs pm = none := by
  unfold applyP; rw [hd]; simp only; rw [addsP_none h _ hk]
theorem apply_end {L L' : Lv} {st : Lv × Int} {zs : List Int} {pm : List (Int × Mt)} (hd : dropsP (L, -1) zs zs.length = some st) (h : addsP st.1 st.2 pm pm.length = some L') : applyP L zs pm = if verOkP L' = true then some L' else none := by
  unfold applyP; rw [hd]; simp only; rw [h]
def DrI (w : World) (So base : Nat) (cE : Array Value) (V : Vn) (zs : List Int) (k : Nat) (av : Value) (W : World) : Prop :=
  ∃ (U : Vn) (at0 : Int) (L : Lv), av = .int .i64 at0 ∧ dropsP (lvOf V.l, -1) zs k = some (L, at0) ∧ (∀ m, m < 4 → lvOf U.l m = L m) ∧ ApL U.l 100000 at0 ∧ ApQ w So base cE U W
def AdI (w : World) (So base : Nat) (cE : Array Value) (L0 : Lv) (at0 : Int) (pm : List (Int × Mt)) (k : Nat) (W : World) : Prop :=
  ∃ (U : Vn) (L : Lv), addsP L0 at0 pm k = some L ∧ (∀ m, m < 4 → lvOf U.l m = L m) ∧ ApL U.l (100000 + k) at0 ∧ ApQ w So base cE U W
theorem has_no {V : Vn} {z : Int} {w : World} (h : IsVn w V) (hn : hasT (tabs V.l 4) z = none) : Calls Try.prog 50 #[.agg V.cells, .int .i64 z] w fun e w' => e = .returned (.tuple #[.int .i64 0, .bool false]) ∧ Below w.heap.size w w' := by
  have := has_any V z w h
  rwa [show hasN (tabs V.l 4) z = 0 by unfold hasN; rw [hn], show hasB (tabs V.l 4) z = false by unfold hasB; rw [hn]; rfl] at this
theorem has_yes {V : Vn} {z : Int} {w : World} {n : Nat} (h : IsVn w V) (hn : hasT (tabs V.l 4) z = some n) : Calls Try.prog 50 #[.agg V.cells, .int .i64 z] w fun e w' => e = .returned (.tuple #[.int .i64 (n : Nat), .bool true]) ∧ Below w.heap.size w w' := by
  have := has_any V z w h
  rwa [show hasN (tabs V.l 4) z = (n : Int) by unfold hasN; rw [hn], show hasB (tabs V.l 4) z = true by unfold hasB; rw [hn]; rfl] at this
theorem own_some {W : World} {base : Nat} {v : Value} {l : List Mr} (h : OwnMs W base v l) (hp : 0 < l.length) : ∃ g cap, v = .slice (some ⟨g, 0, none⟩) l.length cap := by
  rcases h.1.2 with ⟨-, h0⟩ | ⟨g, cap, cur, e, -⟩
  · omega
  · exact ⟨g, cap, e⟩
theorem vn_slices {W : World} {base : Nat} {U : Vn} (h : OwnVn W base U) : ∃ a0 n0 c0 a1 n1 c1 a2 n2 c2 a3 n3 c3, U.v 0 = .slice a0 n0 c0 ∧ U.v 1 = .slice a1 n1 c1 ∧ U.v 2 = .slice a2 n2 c2 ∧ U.v 3 = .slice a3 n3 c3 := by
  obtain ⟨a0, c0, e0⟩ := own_slice (h.own 0 (by omega)).1
  obtain ⟨a1, c1, e1⟩ := own_slice (h.own 1 (by omega)).1
  obtain ⟨a2, c2, e2⟩ := own_slice (h.own 2 (by omega)).1
  obtain ⟨a3, c3, e3⟩ := own_slice (h.own 3 (by omega)).1
  exact ⟨a0, _, c0, a1, _, c1, a2, _, c2, a3, _, c3, e0, e1, e2, e3⟩
theorem ApQ.final {w W : World} {So base : Nat} {cE : Array Value} {U : Vn} (h : ApQ w So base cE U W) (hs : w.heap.size + 3 ≤ base) (y0 y1 y2 y3 : Value) :
    ((((W.setCell ⟨w.heap.size + 1 + 1, 0, none⟩ y0).setCell ⟨w.heap.size + 1 + 1, 1, none⟩ y1).setCell ⟨w.heap.size + 1 + 1, 2, none⟩ y2).setCell ⟨w.heap.size + 1 + 1, 3, none⟩ y3).heap[w.heap.size + 1 + 1]? = some (.cells #[y0, y1, y2, y3] 61 (0, 0)) ∧
    Below w.heap.size w ((((W.setCell ⟨w.heap.size + 1 + 1, 0, none⟩ y0).setCell ⟨w.heap.size + 1 + 1, 1, none⟩ y1).setCell ⟨w.heap.size + 1 + 1, 2, none⟩ y2).setCell ⟨w.heap.size + 1 + 1, 3, none⟩ y3) ∧
    OwnVn ((((W.setCell ⟨w.heap.size + 1 + 1, 0, none⟩ y0).setCell ⟨w.heap.size + 1 + 1, 1, none⟩ y1).setCell ⟨w.heap.size + 1 + 1, 2, none⟩ y2).setCell ⟨w.heap.size + 1 + 1, 3, none⟩ y3) w.heap.size U := by
  have f1 := h.own.far (grown_set W (w.heap.size + 1 + 1) 0 y0) (fun r e => by cases e; omega)
  have f2 := f1.far (grown_set _ (w.heap.size + 1 + 1) 1 y1) (fun r e => by cases e; omega)
  have f3 := f2.far (grown_set _ (w.heap.size + 1 + 1) 2 y2) (fun r e => by cases e; omega)
  have f4 := f3.far (grown_set _ (w.heap.size + 1 + 1) 3 y3) (fun r e => by cases e; omega)
  refine ⟨set4g rfl h.res y0 y1 y2 y3, ?_, f4.mono (by omega)⟩
  exact (((h.bel.setCell (p := ⟨w.heap.size + 1 + 1, 0, none⟩) (by simp; omega) _).setCell (p := ⟨w.heap.size + 1 + 1, 1, none⟩) (by simp; omega) _).setCell (p := ⟨w.heap.size + 1 + 1, 2, none⟩) (by simp; omega) _).setCell (p := ⟨w.heap.size + 1 + 1, 3, none⟩) (by simp; omega) _
theorem tabs_len {l : Nat → List Mr} {n : Nat} (hn : n < 4) : (l n).length ≤ (tabs l 4).length := by
  show _ ≤ (((([] ++ (l 0).map fun r => (0, r)) ++ (l 1).map fun r => (1, r)) ++ (l 2).map fun r => (2, r)) ++ (l 3).map fun r => (3, r)).length
  simp only [List.length_append, List.length_map, List.length_nil]
  match n, hn with
  | 0, _ => omega
  | 1, _ => omega
  | 2, _ => omega
  | 3, _ => omega
theorem sortS_congr {l l' : List Mr} (h : l.map (·.1) = l'.map (·.1)) (hs : sortS l) : sortS l' := by
  have e : ∀ l : List Mr, sortS l ↔ (l.map (·.1)).Pairwise fun x y => cmpK x.a y.a ≤ 0 := fun l => by rw [sortS_iff, List.pairwise_map]
  exact (e l').2 (h ▸ (e l).1 hs)
theorem lvOf_congr {l l' : Nat → List Mr} (h : ∀ n, n < 4 → (l n).map (·.1) = (l' n).map (·.1)) : ∀ m, m < 4 → lvOf l m = lvOf l' m := h
end Go.Proofs.Ythjjelomlgmllaa.Tithe
