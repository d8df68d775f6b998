/- A version of a call's own; (*Version).copied: walked. -/
import Derived.Test.YthjjelomlgmllaaLevOver
namespace Go.Proofs.Ythjjelomlgmllaa.Tithe
open Go.RowKit Go.Sort Go.Shelf
set_option linter.unusedVariables false
set_option linter.unusedSimpArgs false
set_option maxRecDepth 100000
structure OwnVn (W : World) (base : Nat) (V : Vn) : Prop where
  own : ∀ n, n < 4 → OwnMs W base (V.v n) (V.l n)
  apart : ∀ i j, i < 4 → j < 4 → i ≠ j → ∀ q, (V.v i).ownBlock = some q → (V.v j).ownBlock ≠ some q
theorem OwnVn.isVn {W : World} {base : Nat} {V : Vn} (h : OwnVn W base V) : IsVn W V := fun n hn => (h.own n hn).isMr
theorem OwnVn.below {W W' : World} {base : Nat} {V : Vn} (h : OwnVn W base V) (hb : Below W.heap.size W W') : OwnVn W' base V := ⟨fun n hn => (h.own n hn).below hb, h.apart⟩
theorem OwnVn.mono {W : World} {base b2 : Nat} {V : Vn} (h : OwnVn W base V) (hb : b2 ≤ base) : OwnVn W b2 V := ⟨fun n hn => (h.own n hn).mono hb, h.apart⟩
theorem OwnVn.far {W W' : World} {base : Nat} {V : Vn} {row : Option Nat} (h : OwnVn W base V) (hg : W.grownBy W' row) (hr : ∀ r, row = some r → r < base) : OwnVn W' base V := ⟨fun n hn => (h.own n hn).far hg hr, h.apart⟩
theorem st_vn {β : Type} {B : Nat} (base : β → Nat) (V : β → Vn) : OwnFrom B (fun s W => OwnVn W (base s) (V s)) := by
  intro s W W' row h hg hr
  exact ⟨fun n hn => st_ms (fun _ => base s) (fun _ => (V s).v n) (fun _ => (V s).l n) s W W' row (h.own n hn) hg hr, h.apart⟩
def Vn.upd (V : Vn) (n : Nat) (v : Value) (l : List Mr) : Vn := ⟨fun i => if i = n then v else V.v i, fun i => if i = n then l else V.l i⟩
theorem upd_v (V : Vn) (n : Nat) (v : Value) (l : List Mr) (i : Nat) : (V.upd n v l).v i = if i = n then v else V.v i := rfl
theorem upd_l (V : Vn) (n : Nat) (v : Value) (l : List Mr) (i : Nat) : (V.upd n v l).l i = if i = n then l else V.l i := rfl
theorem upd_cells (V : Vn) {n : Nat} (hn : n < 4) (v : Value) (l : List Mr) : V.cells.setIfInBounds n v = (V.upd n v l).cells := by
  match n, hn with
  | 0, _ => rfl
  | 1, _ => rfl
  | 2, _ => rfl
  | 3, _ => rfl
theorem vn_cell (V : Vn) {n : Nat} (hn : n < 4) : V.cells[n]? = some (V.v n) := by
  match n, hn with
  | 0, _ => rfl
  | 1, _ => rfl
  | 2, _ => rfl
  | 3, _ => rfl
theorem OwnVn.turned {W W1 w2 : World} {base : Nat} {V : Vn} {n : Nat} {x' : Value} {rows' : List Mr} (h : OwnVn W base V) (hn : n < 4) (hb : Below W.heap.size W W1) (hg : W1.grownBy w2 (V.v n).ownBlock) (ho : OwnMs w2 base x' rows') (hl : ∀ q, x'.ownBlock = some q → (V.v n).ownBlock = some q ∨ W.heap.size ≤ q) : OwnVn w2 base (V.upd n x' rows') := by
  have hrow : ∀ g, (V.v n).ownBlock = some g → ∃ cur fr, W1.heap[g]? = some (.cells cur 78 fr) := fun g e => by
    obtain ⟨cur, hc⟩ := own_rowblk ((h.own n hn).below hb).1 g e
    exact ⟨cur, _, hc⟩
  have hfar : ∀ q j, j < 4 → j ≠ n → x'.ownBlock = some q → (V.v j).ownBlock ≠ some q := by
    intro q j hj hne hq he
    rcases hl q hq with h1 | h1
    · exact h.apart n j hn hj (fun e => hne e.symm) q h1 he
    · have := ((h.own j hj).1.lt q he).2; omega
  refine ⟨fun i hi => ?_, fun i j hi hj hij q hq => ?_⟩
  · rw [upd_v, upd_l]
    by_cases e : i = n
    · rw [if_pos e, if_pos e]; exact ho
    · rw [if_neg e, if_neg e]
      refine ((h.own i hi).below hb).other hg ?_ hrow
      cases hq : (V.v i).ownBlock with
      | none => exact .inl rfl
      | some q =>
        right
        intro e2
        exact h.apart i n hi hn e q hq e2.symm
  · rw [upd_v] at hq ⊢
    by_cases e : i = n
    · rw [if_pos e] at hq
      rw [if_neg (fun e2 => hij (e.trans e2.symm))]
      exact hfar q j hj (fun e2 => hij (e.trans e2.symm)) hq
    · rw [if_neg e] at hq
      by_cases e2 : j = n
      · rw [if_pos e2]
        intro hq2
        exact hfar q i hi e hq2 hq
      · rw [if_neg e2]
        exact h.apart i j hi hj hij q hq
def levT (ts : List (Nat × Mr)) (n : Nat) : List Mt := (ts.filter fun p => decide (p.1 = n)).map (·.2.1)
theorem levT_snoc (ts : List (Nat × Mr)) (p : Nat × Mr) (n : Nat) : levT (ts ++ [p]) n = if p.1 = n then levT ts n ++ [p.2.1] else levT ts n := by
  unfold levT
  rw [List.filter_append, List.map_append]
  by_cases h : p.1 = n
  · rw [if_pos h, List.filter_cons_of_pos (by simpa using h)]; rfl
  · rw [if_neg h, List.filter_cons_of_neg (by simpa using h)]; simp
theorem levT_tabs (l : Nat → List Mr) (m : Nat) : ∀ n, levT (tabs l n) m = if m < n then (l m).map (·.1) else []
  | 0 => by simp [tabs, levT]
  | n + 1 => by
    have ih := levT_tabs l m n
    have e : levT (tabs l (n + 1)) m = levT (tabs l n) m ++ levT ((l n).map fun r => (n, r)) m := by
      unfold levT; show ((tabs l n ++ _).filter _).map _ = _
      rw [List.filter_append, List.map_append]
    rw [e, ih]
    by_cases h : m = n
    · subst h
      have e2 : levT ((l m).map fun r => (m, r)) m = (l m).map (·.1) := by
        unfold levT
        rw [List.filter_eq_self.2 (by intro p hp; obtain ⟨r, -, rfl⟩ := List.mem_map.1 hp; simp), List.map_map]; rfl
      rw [e2, if_neg (Nat.lt_irrefl _), if_pos (Nat.lt_succ_self _)]; rfl
    · have e2 : levT ((l n).map fun r => (n, r)) m = [] := by
        unfold levT
        rw [List.filter_eq_nil_iff.2 (by intro p hp; obtain ⟨r, -, rfl⟩ := List.mem_map.1 hp; simp; omega)]; rfl
      rw [e2, List.append_nil]
      by_cases h2 : m < n
      · rw [if_pos h2, if_pos (by omega)]
      · rw [if_neg h2, if_neg (by omega)]
def Vn.none : Vn := ⟨fun _ => .slice .none 0 0, fun _ => []⟩
theorem ownVn_none (W : World) (base : Nat) : OwnVn W base Vn.none := ⟨fun _ _ => OwnMs.nil _ _, fun i j _ _ _ q hq => by cases hq⟩
/-! ### copied -/
def CopI (w : World) (base vb : Nat) (V : Vn) (k : Nat) (W : World) : Prop :=
  W.heap[w.heap.size]? = some (.cells Vn.none.cells 61 (0, 0)) ∧ (∃ U : Vn, W.heap[w.heap.size + 1]? = some (.cells U.cells 61 (0, 0)) ∧ OwnVn W base U ∧ ∀ n, n < 4 → (U.l n).map (·.1) = levT ((tabs V.l 4).take k) n) ∧
  W.heap[w.heap.size + 1 + 1]? = some (.cells #[.pointer (some ⟨vb, 0, none⟩)] 140 (0, 0)) ∧ W.heap[vb]? = some (.cells V.cells 61 (0, 0)) ∧ Below w.heap.size w W
theorem copI_own {w : World} {base vb : Nat} {V : Vn} {B : Nat} (hB : w.heap.size ≤ B) : OwnFrom B (CopI w base vb V) :=
  st_and (st_blk _ _ _ _) (st_and (st_ex fun U => st_and (st_blk _ _ _ _) (st_and (st_vn _ _) (st_pure _))) (st_and (st_blk _ _ _ _) (st_and (st_blk _ _ _ _) (st_below (Nat.le_refl _) hB))))
theorem vnInfo : (Try.prog.info? 61).map (·.size) = some 4 := by kernel_rfl
attribute [local go_sem] Oper.semAt_some
set_option maxHeartbeats 6400000 in
theorem vcopied_any (V : Vn) (vb : Nat) (w : World) (hvb : w.heap[vb]? = some (.cells V.cells 61 (0, 0))) (h : IsVn w V) (hl : (tabs V.l 4).length ≤ 100000) (hrl : ∀ p ∈ tabs V.l 4, p.2.1.refs.length ≤ 1000000) :
    Calls Try.prog 49 #[.pointer (some ⟨vb, 0, none⟩)] w fun e w' => ∃ U : Vn, e = .returned (.agg U.cells) ∧ OwnVn w' w.heap.size U ∧ (∀ n, n < 4 → (U.l n).map (·.1) = (V.l n).map (·.1)) ∧ Below w.heap.size w w' := by
  have H := Lib.hid h
  have Hl := Lib.hid hrl
  have Hvb := Lib.hid hvb
  clear h hrl hvb
  refine calls_of_marks Try.func49 rfl ?_
  simp only [Try.ntmps49, List.size_toArray, List.length_cons, List.length_nil, Nat.reduceAdd, Nat.reduceSub, Array.replicate_succ, Array.replicate_zero, List.push_toArray, List.append_toArray, List.nil_append, List.cons_append]
  go_wp2_with fail
  refine (all_any _ _).mono ?_
  rintro e w' ⟨rfl, rfl⟩
  go_wp2_with fail
  generalize hW : ((w.alloc (.cells #[.slice none 0 0, .slice none 0 0, .slice none 0 0, .slice none 0 0] 61)).alloc (.cells #[.slice none 0 0, .slice none 0 0, .slice none 0 0, .slice none 0 0] 61)).alloc (.cells #[.pointer (some ⟨vb, 0, none⟩)] 140) = W
  have hWs : W.heap.size = w.heap.size + 1 + 1 + 1 := by rw [← hW]; simp only [World.size_alloc]
  have hI : CopI w W.heap.size vb V 0 W := by
    rw [← hW]
    exact ⟨blk_old (blk_old (blk_new rfl _) _) _, ⟨Vn.none, blk_old (blk_new (by simp only [World.size_alloc]) _) _, ownVn_none _ _, fun n _ => rfl⟩, blk_new (by simp only [World.size_alloc]) _, blk_old (blk_old (blk_old Hvb.out _) _) _,
      (((Below.refl _ _).alloc (Nat.le_refl _) _).alloc (by simp) _).alloc (by simp; omega) _⟩
  clear hW
  have HWs := Lib.hid hWs
  clear hWs
  refine range_lawS (gf := 83) (lb := #[.pointer (some ⟨w.heap.size + 1 + 1, 0, none⟩)]) rfl (enters_of Try.func83 (by kernel_rfl) rfl)
    (all_iter (w.heap.size + 1 + 1) vb V w H.out) (tabEnc_size V.l) (CopI w W.heap.size vb V) (fun _ _ _ => False) (fun k X hX => ⟨hX.2.2.1, hX.2.2.2.1, hX.2.2.2.2⟩) (copI_own (by rw [HWs.out]; omega)) (fun c k X Y row h _ _ => h) hI ?round ?done ?stop
  case round =>
    rintro yl k X hk hXs ⟨h0, h1, h2, h3, h6⟩
    obtain ⟨p, hp⟩ : ∃ p, (tabs V.l 4)[k]? = some p := ⟨_, List.getElem?_eq_getElem hk⟩
    rw [tabEnc_at V.l hp]
    have hrr := tabs_rr H.out hp
    have hpl := Hl.out p (List.mem_of_getElem? hp)
    have hn4 := tabs_lt hp
    have htk : (tabs V.l 4).take (k + 1) = (tabs V.l 4).take k ++ [p] := by rw [List.take_add_one, hp]; rfl
    obtain ⟨n, ⟨⟨mz, mn, a, b, refs⟩, vr⟩⟩ := p
    dsimp only at hrr hpl hn4
    obtain ⟨ra, rc, hrv, -, -, -⟩ := id hrr
    subst hrv
    have Hrr := Lib.hid hrr
    have Htk := Lib.hid htk
    have H0 := Lib.hid h0
    have H1 := Lib.hid h1
    have H2 := Lib.hid h2
    have H3 := Lib.hid h3
    have H6 := Lib.hid h6
    clear hp h0 h1 h2 h3 h6 hrr htk
    obtain ⟨rn, hrn⟩ : ∃ rn, rn = refs.length := ⟨_, rfl⟩
    rw [← hrn] at Hrr Htk ⊢
    have Hrn := Lib.hid hrn
    clear hrn
    unfold mrC
    dsimp only
    gi_wp2
    refine ⟨keeps_of ((Below.refl _ _).alloc (Nat.le_refl _) _), ?_⟩
    intro Y hY
    have hI2 : CopI w W.heap.size vb V k Y := st_turn (copI_own (by rw [HWs.out]; omega)) hY (by
      obtain ⟨U, q1, q2, q3⟩ := H1.out
      exact ⟨blk_old H0.out _, ⟨U, blk_old q1 _, q2.below ((Below.refl _ _).alloc (Nat.le_refl _) _), q3⟩, blk_old H2.out _, blk_old H3.out _, H6.out.alloc H6.out.size _⟩)
    have hm := blk_turn hY (blk_new rfl (.cells #[.int .i64 mz, .int .i64 mn, .string a.u, .int .i64 a.s, .int .i64 a.k, .string b.u, .int .i64 b.s, .int .i64 b.k, .slice ra rn rc] 78))
    obtain ⟨h0, ⟨U, h1, hvn, hrows⟩, h2, h3, h6⟩ := hI2
    clear H0 H1 H2 H3 H6
    have M0 := (cell_of_blk (w := Y.drew) hm 0).trans (show _ = some (.int .i64 mz) from rfl)
    have M1 := (cell_of_blk (w := Y.drew) hm 1).trans (show _ = some (.int .i64 mn) from rfl)
    have M2 := (cell_of_blk (w := Y.drew) hm 2).trans (show _ = some (.string a.u) from rfl)
    have M3 := (cell_of_blk (w := Y.drew) hm 3).trans (show _ = some (.int .i64 a.s) from rfl)
    have M4 := (cell_of_blk (w := Y.drew) hm 4).trans (show _ = some (.int .i64 a.k) from rfl)
    have M5 := (cell_of_blk (w := Y.drew) hm 5).trans (show _ = some (.string b.u) from rfl)
    have M6 := (cell_of_blk (w := Y.drew) hm 6).trans (show _ = some (.int .i64 b.s) from rfl)
    have M7 := (cell_of_blk (w := Y.drew) hm 7).trans (show _ = some (.int .i64 b.k) from rfl)
    have M8 := (cell_of_blk (w := Y.drew) hm 8).trans (show _ = some (.slice ra rn rc) from rfl)
    have hmc' := Lib.hid (mcopied_any mz mn a b (.slice ra rn rc) refs Y.drew (Hrr.out.below (h6.drew)) hpl)
    have hms := hvn.own n hn4
    have hUn := hrows n hn4
    have hrl : (U.l n).length ≤ k := by
      have := congrArg List.length hUn
      unfold levT at this
      rw [List.length_map, List.length_map] at this
      have q := List.length_filter_le (fun p : Nat × Mr => decide (p.1 = n)) ((tabs V.l 4).take k)
      rw [List.length_take] at q
      omega
    obtain ⟨xa, xc, hxv⟩ := own_slice hms.1
    obtain ⟨rl, hrlE⟩ : ∃ rl, rl = (U.l n).length := ⟨_, rfl⟩
    rw [← hrlE] at hrl hxv
    rw [hxv] at hms
    have cx : Y.drew.cell? ⟨w.heap.size + 1, n, none⟩ = some (.slice xa rl xc) := (cell_of_blk (w := Y.drew) h1 n).trans ((vn_cell U hn4).trans (by rw [hxv]))
    have hYW : W.heap.size ≤ Y.heap.size := Nat.le_trans hXs (Nat.le_trans (by simp) hY.size)
    have Hpush := Lib.hid (copy_push Y W.heap.size ⟨w.heap.size + 1, n, none⟩ xa rl xc (U.l n) mz mn a b refs (by rw [HWs.out]; show w.heap.size + 1 < _; omega) hYW cx (frozen_of_blk h1 n) hms (by omega))
    have hfin : ∀ (w2 : World) (ya : Option Addr) (yc : Nat) (va : Option Addr) (vc : Nat), Hid (CopyOut Y W.heap.size (.slice xa rl xc) (.slice ya (rl + 1) yc) w2 (U.l n) (U.l n ++ [(⟨mz, mn, a, b, refs⟩, .slice va refs.length vc)])) →
        KeepsFrom W.heap.size Y (w2.setCell ⟨w.heap.size + 1, n, none⟩ (.slice ya (rl + 1) yc)) ∧ CopI w W.heap.size vb V (k + 1) (w2.setCell ⟨w.heap.size + 1, n, none⟩ (.slice ya (rl + 1) yc)) := by
      rintro w2 ya yc va vc ⟨hk2, hkb, hbel, qm, ⟨W1, hW1, hg1⟩, hlies⟩
      have hs := HWs.out
      have hvbw : vb < w.heap.size := blk_lt Hvb.out
      have hvn2 : OwnVn w2 W.heap.size (U.upd n (.slice ya (rl + 1) yc) (U.l n ++ [(⟨mz, mn, a, b, refs⟩, .slice va refs.length vc)])) := hvn.turned hn4 hW1 (by rw [hxv]; exact hg1) qm (by rw [hxv]; exact hlies)
      refine ⟨(hk2.trans (KeepsOthers.setCell _ _ _)).from _, (Below.heap_setCell _ ⟨w.heap.size + 1, n, none⟩ _ _ (by show w.heap.size ≠ w.heap.size + 1; omega)).trans (hkb _ _ (by omega) h0), ⟨_, (blk_set (hkb _ _ (by omega) h1)).trans (by rw [upd_cells U hn4]), hvn2.far (grown_set _ _ _ _) (fun r e => by cases e; omega), fun i hi => ?_⟩, (Below.heap_setCell _ ⟨w.heap.size + 1, n, none⟩ _ _ (by show w.heap.size + 1 + 1 ≠ w.heap.size + 1; omega)).trans (hkb _ _ (by omega) h2), (Below.heap_setCell _ ⟨w.heap.size + 1, n, none⟩ _ _ (by show vb ≠ w.heap.size + 1; omega)).trans (hkb _ _ (by omega) h3), (hbel _ _ (by omega) h6).setCell (by simp) _⟩
      rw [Htk.out, levT_snoc, upd_l]
      by_cases e : i = n
      · subst e
        rw [if_pos rfl, if_pos rfl, List.map_append, hUn]; rfl
      · rw [if_neg e, if_neg (fun q => e q.symm), hrows i hi]
    have Hfin := Lib.hid hfin
    have hlt1 : w.heap.size + 1 < Y.heap.size := blk_lt h1
    have hfz := frozen_of_blk h1 n
    have hni : (n : Int) < 4 := by omega
    have hkl : k ≤ 100000 := by omega
    have HrlE := Lib.hid hrlE
    clear hrlE hfin hm h0 h1 h2 h3 h6 hms hrows hY hUn hxv hvn
    gi_wp2_with fail
    refine round_held (S := fun _ => True) (by kernel_rfl) (by kernel_rfl) ?hlo trivial (fun _ => ?_)
    case hlo => rintro ⟨a, w, h⟩; exact h
    refine wpAnyH_take (i := 0) (v := ?_) rfl (by kernel_rfl) (by kernel_rfl) (by kernel_rfl) (fun _ _ _ h => h) (Or.inl ⟨by rfl, ?hy0⟩) trivial ?_
    case hy0 => (intro W hSw; go_simp; try with_reducible rfl)
    try simp only [Act.put, List.setIfInBounds_toArray, List.set_cons_zero, List.set_cons_succ]
    refine wpAnyH_take (i := 1) (v := ?_) rfl (by kernel_rfl) (by kernel_rfl) (by kernel_rfl) (fun _ _ _ h => h) (Or.inl ⟨by rfl, ?hy1⟩) trivial ?_
    case hy1 => (intro W hSw; go_simp; try with_reducible rfl)
    try simp only [Act.put, List.setIfInBounds_toArray, List.set_cons_zero, List.set_cons_succ]
    refine wpAnyH_take (i := 2) (v := ?_) rfl (by kernel_rfl) (by kernel_rfl) (by kernel_rfl) (fun _ _ _ h => h) (Or.inl ⟨by rfl, ?hy2⟩) trivial ?_
    case hy2 => (intro W hSw; go_simp; try with_reducible rfl)
    try simp only [Act.put, List.setIfInBounds_toArray, List.set_cons_zero, List.set_cons_succ]
    refine wpAnyH_take (i := 3) (v := ?_) rfl (by kernel_rfl) (by kernel_rfl) (by kernel_rfl) (fun _ _ _ h => h) (Or.inl ⟨by rfl, ?hy3⟩) trivial ?_
    case hy3 => (intro W hSw; go_simp; try with_reducible rfl)
    try simp only [Act.put, List.setIfInBounds_toArray, List.set_cons_zero, List.set_cons_succ]
    refine wpAnyH_take (i := 9) (v := ?_) rfl (by kernel_rfl) (by kernel_rfl) (by kernel_rfl) (fun _ _ _ h => h) (Or.inl ⟨by rfl, ?hy9⟩) trivial ?_
    case hy9 => (intro W hSw; go_simp; try with_reducible rfl)
    try simp only [Act.put, List.setIfInBounds_toArray, List.set_cons_zero, List.set_cons_succ]
    refine wpAnyH_ready (rs := [4, 5]) (by kernel_rfl) (by simp) (AllReadyH.cons rfl (fun K hK => ?_) (AllReadyH.cons rfl (fun K hK => ?_) AllReadyH.nil))
    · go_simp
      refine hK.out _ _ trivial (fun _ => ?_)
      clear hK K
      try simp only [Act.put, List.setIfInBounds_toArray, List.set_cons_zero, List.set_cons_succ]
      refine wpAnyH_ready (rs := [5]) (by kernel_rfl) (by simp) (AllReadyH.cons rfl (fun K hK => ?_) AllReadyH.nil)
      go_simp
      refine hK.out _ _ trivial (fun _ => ?_)
      clear hK K
      try simp only [Act.put, List.setIfInBounds_toArray, List.set_cons_zero, List.set_cons_succ]
      refine wpAnyH_ready (rs := [6]) (by kernel_rfl) (by simp) (AllReadyH.cons rfl (fun K hK => ?_) AllReadyH.nil)
      go_simp
      refine hmc'.out.mono ?_
      rintro e w1 ⟨v', rfl, ho1, hb1⟩
      obtain ⟨va, vc, rfl⟩ := own_slice ho1
      obtain ⟨cx1, ya, yc, w2, happ, cx2, cz2, HP⟩ := Hpush.out w1 va vc ho1 hb1
      have cx1a := fun o => grow_alloc cx1 o
      clear ho1 hb1
      refine hK.out _ _ trivial (fun _ => ?_)
      clear hK K
      try simp only [Act.put, List.setIfInBounds_toArray, List.set_cons_zero, List.set_cons_succ]
      refine wpAnyH_ready (rs := [7]) (by kernel_rfl) (by simp) (AllReadyH.cons rfl (fun K hK => ?_) AllReadyH.nil)
      go_simp
      refine hK.out _ _ trivial (fun _ => ?_)
      clear hK K
      try simp only [Act.put, List.setIfInBounds_toArray, List.set_cons_zero, List.set_cons_succ]
      refine wpAnyH_ready (rs := [8]) (by kernel_rfl) (by simp) (AllReadyH.cons rfl (fun K hK => ?_) AllReadyH.nil)
      rw [if_pos (by rfl)]
      refine wp_append_run (.tmp 14) (.tmp 17) 58 rfl _ _ _ _ rfl rfl happ (hK.out _ _ trivial (fun _ => ?_))
      clear hK K
      try simp only [Act.put, List.setIfInBounds_toArray, List.set_cons_zero, List.set_cons_succ]
      refine wpAnyH_ready (rs := [10]) (by kernel_rfl) (by simp) (AllReadyH.cons rfl (fun K hK => ?_) AllReadyH.nil)
      go_simp
      refine hK.out _ _ trivial (fun _ => ?_)
      clear hK K
      try simp only [Act.put, List.setIfInBounds_toArray, List.set_cons_zero, List.set_cons_succ]
      refine wpAnyH_ready (rs := [11]) (by kernel_rfl) (by simp) (AllReadyH.cons rfl (fun K hK => ?_) AllReadyH.nil)
      go_simp
      refine hK.out _ _ trivial (fun _ => ?_)
      clear hK K
      try simp only [Act.put, List.setIfInBounds_toArray, List.set_cons_zero, List.set_cons_succ]
      refine wpAnyH_done (by kernel_rfl) ?_ _
      exact Hfin.out w2 ya yc va vc HP
    · go_simp
      refine hK.out _ _ trivial (fun _ => ?_)
      clear hK K
      try simp only [Act.put, List.setIfInBounds_toArray, List.set_cons_zero, List.set_cons_succ]
      refine wpAnyH_ready (rs := [4, 6]) (by kernel_rfl) (by simp) (AllReadyH.cons rfl (fun K hK => ?_) (AllReadyH.cons rfl (fun K hK => ?_) AllReadyH.nil))
      · go_simp
        refine hK.out _ _ trivial (fun _ => ?_)
        clear hK K
        try simp only [Act.put, List.setIfInBounds_toArray, List.set_cons_zero, List.set_cons_succ]
        refine wpAnyH_ready (rs := [6]) (by kernel_rfl) (by simp) (AllReadyH.cons rfl (fun K hK => ?_) AllReadyH.nil)
        go_simp
        refine hmc'.out.mono ?_
        rintro e w1 ⟨v', rfl, ho1, hb1⟩
        obtain ⟨va, vc, rfl⟩ := own_slice ho1
        obtain ⟨cx1, ya, yc, w2, happ, cx2, cz2, HP⟩ := Hpush.out w1 va vc ho1 hb1
        have cx1a := fun o => grow_alloc cx1 o
        clear ho1 hb1
        refine hK.out _ _ trivial (fun _ => ?_)
        clear hK K
        try simp only [Act.put, List.setIfInBounds_toArray, List.set_cons_zero, List.set_cons_succ]
        refine wpAnyH_ready (rs := [7]) (by kernel_rfl) (by simp) (AllReadyH.cons rfl (fun K hK => ?_) AllReadyH.nil)
        go_simp
        refine hK.out _ _ trivial (fun _ => ?_)
        clear hK K
        try simp only [Act.put, List.setIfInBounds_toArray, List.set_cons_zero, List.set_cons_succ]
        refine wpAnyH_ready (rs := [8]) (by kernel_rfl) (by simp) (AllReadyH.cons rfl (fun K hK => ?_) AllReadyH.nil)
        rw [if_pos (by rfl)]
        refine wp_append_run (.tmp 14) (.tmp 17) 58 rfl _ _ _ _ rfl rfl happ (hK.out _ _ trivial (fun _ => ?_))
        clear hK K
        try simp only [Act.put, List.setIfInBounds_toArray, List.set_cons_zero, List.set_cons_succ]
        refine wpAnyH_ready (rs := [10]) (by kernel_rfl) (by simp) (AllReadyH.cons rfl (fun K hK => ?_) AllReadyH.nil)
        go_simp
        refine hK.out _ _ trivial (fun _ => ?_)
        clear hK K
        try simp only [Act.put, List.setIfInBounds_toArray, List.set_cons_zero, List.set_cons_succ]
        refine wpAnyH_ready (rs := [11]) (by kernel_rfl) (by simp) (AllReadyH.cons rfl (fun K hK => ?_) AllReadyH.nil)
        go_simp
        refine hK.out _ _ trivial (fun _ => ?_)
        clear hK K
        try simp only [Act.put, List.setIfInBounds_toArray, List.set_cons_zero, List.set_cons_succ]
        refine wpAnyH_done (by kernel_rfl) ?_ _
        exact Hfin.out w2 ya yc va vc HP
      · go_simp
        refine hmc'.out.mono ?_
        rintro e w1 ⟨v', rfl, ho1, hb1⟩
        obtain ⟨va, vc, rfl⟩ := own_slice ho1
        obtain ⟨cx1, ya, yc, w2, happ, cx2, cz2, HP⟩ := Hpush.out w1 va vc ho1 hb1
        have cx1a := fun o => grow_alloc cx1 o
        clear ho1 hb1
        refine hK.out _ _ trivial (fun _ => ?_)
        clear hK K
        try simp only [Act.put, List.setIfInBounds_toArray, List.set_cons_zero, List.set_cons_succ]
        refine wpAnyH_ready (rs := [4, 7]) (by kernel_rfl) (by simp) (AllReadyH.cons rfl (fun K hK => ?_) (AllReadyH.cons rfl (fun K hK => ?_) AllReadyH.nil))
        · go_simp
          refine hK.out _ _ trivial (fun _ => ?_)
          clear hK K
          try simp only [Act.put, List.setIfInBounds_toArray, List.set_cons_zero, List.set_cons_succ]
          refine wpAnyH_ready (rs := [7]) (by kernel_rfl) (by simp) (AllReadyH.cons rfl (fun K hK => ?_) AllReadyH.nil)
          go_simp
          refine hK.out _ _ trivial (fun _ => ?_)
          clear hK K
          try simp only [Act.put, List.setIfInBounds_toArray, List.set_cons_zero, List.set_cons_succ]
          refine wpAnyH_ready (rs := [8]) (by kernel_rfl) (by simp) (AllReadyH.cons rfl (fun K hK => ?_) AllReadyH.nil)
          rw [if_pos (by rfl)]
          refine wp_append_run (.tmp 14) (.tmp 17) 58 rfl _ _ _ _ rfl rfl happ (hK.out _ _ trivial (fun _ => ?_))
          clear hK K
          try simp only [Act.put, List.setIfInBounds_toArray, List.set_cons_zero, List.set_cons_succ]
          refine wpAnyH_ready (rs := [10]) (by kernel_rfl) (by simp) (AllReadyH.cons rfl (fun K hK => ?_) AllReadyH.nil)
          go_simp
          refine hK.out _ _ trivial (fun _ => ?_)
          clear hK K
          try simp only [Act.put, List.setIfInBounds_toArray, List.set_cons_zero, List.set_cons_succ]
          refine wpAnyH_ready (rs := [11]) (by kernel_rfl) (by simp) (AllReadyH.cons rfl (fun K hK => ?_) AllReadyH.nil)
          go_simp
          refine hK.out _ _ trivial (fun _ => ?_)
          clear hK K
          try simp only [Act.put, List.setIfInBounds_toArray, List.set_cons_zero, List.set_cons_succ]
          refine wpAnyH_done (by kernel_rfl) ?_ _
          exact Hfin.out w2 ya yc va vc HP
        · go_simp
          refine hK.out _ _ trivial (fun _ => ?_)
          clear hK K
          try simp only [Act.put, List.setIfInBounds_toArray, List.set_cons_zero, List.set_cons_succ]
          refine wpAnyH_ready (rs := [4]) (by kernel_rfl) (by simp) (AllReadyH.cons rfl (fun K hK => ?_) AllReadyH.nil)
          go_simp
          refine hK.out _ _ trivial (fun _ => ?_)
          clear hK K
          try simp only [Act.put, List.setIfInBounds_toArray, List.set_cons_zero, List.set_cons_succ]
          refine wpAnyH_ready (rs := [8]) (by kernel_rfl) (by simp) (AllReadyH.cons rfl (fun K hK => ?_) AllReadyH.nil)
          rw [if_pos (by rfl)]
          refine wp_append_run (.tmp 14) (.tmp 17) 58 rfl _ _ _ _ rfl rfl happ (hK.out _ _ trivial (fun _ => ?_))
          clear hK K
          try simp only [Act.put, List.setIfInBounds_toArray, List.set_cons_zero, List.set_cons_succ]
          refine wpAnyH_ready (rs := [10]) (by kernel_rfl) (by simp) (AllReadyH.cons rfl (fun K hK => ?_) AllReadyH.nil)
          go_simp
          refine hK.out _ _ trivial (fun _ => ?_)
          clear hK K
          try simp only [Act.put, List.setIfInBounds_toArray, List.set_cons_zero, List.set_cons_succ]
          refine wpAnyH_ready (rs := [11]) (by kernel_rfl) (by simp) (AllReadyH.cons rfl (fun K hK => ?_) AllReadyH.nil)
          go_simp
          refine hK.out _ _ trivial (fun _ => ?_)
          clear hK K
          try simp only [Act.put, List.setIfInBounds_toArray, List.set_cons_zero, List.set_cons_succ]
          refine wpAnyH_done (by kernel_rfl) ?_ _
          exact Hfin.out w2 ya yc va vc HP
  case done =>
    rintro D X hD hXs ⟨h0, ⟨U, h1, hvn, hrows⟩, h2, h3, h6⟩ hK
    have hDw : w.heap.size + 1 + 1 + 1 ≤ D := by have := HWs.out; omega
    obtain ⟨a0, k0, e0⟩ := own_slice (hvn.own 0 (by omega)).1
    obtain ⟨a1, k1, e1⟩ := own_slice (hvn.own 1 (by omega)).1
    obtain ⟨a2, k2, e2⟩ := own_slice (hvn.own 2 (by omega)).1
    obtain ⟨a3, k3, e3⟩ := own_slice (hvn.own 3 (by omega)).1
    generalize (U.l 0).length = n0 at *
    generalize (U.l 1).length = n1 at *
    generalize (U.l 2).length = n2 at *
    generalize (U.l 3).length = n3 at *
    have hcells : U.cells = #[.slice a0 n0 k0, .slice a1 n1 k1, .slice a2 n2 k2, .slice a3 n3 k3] := by unfold Vn.cells; rw [e0, e1, e2, e3]
    rw [hcells] at h1
    have c0 : X.cell? ⟨w.heap.size + 1, 0, none⟩ = some (.slice a0 n0 k0) := (cell_of_blk h1 0).trans rfl
    have c1 : X.cell? ⟨w.heap.size + 1, 1, none⟩ = some (.slice a1 n1 k1) := (cell_of_blk h1 1).trans rfl
    have c2 : X.cell? ⟨w.heap.size + 1, 2, none⟩ = some (.slice a2 n2 k2) := (cell_of_blk h1 2).trans rfl
    have c3 : X.cell? ⟨w.heap.size + 1, 3, none⟩ = some (.slice a3 n3 k3) := (cell_of_blk h1 3).trans rfl
    have d := fun j => cell_of_blk h0 j
    unfold Vn.cells Vn.none at d
    dsimp only at d
    have z := fun j => frozen_of_blk h0 j
    have HX : Hid (∀ y0 y1 y2 y3 : Value, ((((X.setCell ⟨w.heap.size, 0, none⟩ y0).setCell ⟨w.heap.size, 1, none⟩ y1).setCell ⟨w.heap.size, 2, none⟩ y2).setCell ⟨w.heap.size, 3, none⟩ y3).heap[w.heap.size]? = some (.cells #[y0, y1, y2, y3] 61 (0, 0)) ∧ ((((X.setCell ⟨w.heap.size, 0, none⟩ y0).setCell ⟨w.heap.size, 1, none⟩ y1).setCell ⟨w.heap.size, 2, none⟩ y2).setCell ⟨w.heap.size, 3, none⟩ y3).heap[D]? = some (.deferred (some [])) ∧ Below w.heap.size w ((((X.setCell ⟨w.heap.size, 0, none⟩ y0).setCell ⟨w.heap.size, 1, none⟩ y1).setCell ⟨w.heap.size, 2, none⟩ y2).setCell ⟨w.heap.size, 3, none⟩ y3) ∧
        OwnVn (((((X.setCell ⟨w.heap.size, 0, none⟩ y0).setCell ⟨w.heap.size, 1, none⟩ y1).setCell ⟨w.heap.size, 2, none⟩ y2).setCell ⟨w.heap.size, 3, none⟩ y3).putObj D (.deferred none)) w.heap.size U) := by
      intro y0 y1 y2 y3
      have hs := HWs.out
      have f1 := hvn.far (grown_set X w.heap.size 0 y0) (fun r e => by cases e; omega)
      have f2 := f1.far (grown_set _ w.heap.size 1 y1) (fun r e => by cases e; omega)
      have f3 := f2.far (grown_set _ w.heap.size 2 y2) (fun r e => by cases e; omega)
      have f4 := f3.far (grown_set _ w.heap.size 3 y3) (fun r e => by cases e; omega)
      have hkD : ((((X.setCell ⟨w.heap.size, 0, none⟩ y0).setCell ⟨w.heap.size, 1, none⟩ y1).setCell ⟨w.heap.size, 2, none⟩ y2).setCell ⟨w.heap.size, 3, none⟩ y3).heap[D]? = some (.deferred (some [])) := (Below.heap_setCell _ ⟨w.heap.size, 3, none⟩ _ _ (by show D ≠ w.heap.size; omega)).trans ((Below.heap_setCell _ ⟨w.heap.size, 2, none⟩ _ _ (by show D ≠ w.heap.size; omega)).trans ((Below.heap_setCell _ ⟨w.heap.size, 1, none⟩ _ _ (by show D ≠ w.heap.size; omega)).trans ((Below.heap_setCell _ ⟨w.heap.size, 0, none⟩ _ _ (by show D ≠ w.heap.size; omega)).trans hK)))
      refine ⟨set4g rfl h0 y0 y1 y2 y3, hkD, (((h6.setCell (p := ⟨w.heap.size, 0, none⟩) (Nat.le_refl _) _).setCell (p := ⟨w.heap.size, 1, none⟩) (Nat.le_refl _) _).setCell (p := ⟨w.heap.size, 2, none⟩) (Nat.le_refl _) _).setCell (p := ⟨w.heap.size, 3, none⟩) (Nat.le_refl _) _, ?_⟩
      exact (st_turn (I := fun (_ : Unit) Z => OwnVn Z W.heap.size U) (s := ()) (st_vn _ _) ⟨some D, grownBy_putObj _ _ _, fun r e => by cases e; exact ⟨hD, _, hkD, rfl⟩⟩ f4).mono (by omega)
    have Hrows := Lib.hid hrows
    have HK := Lib.hid hK
    have Hcells := Lib.hid hcells
    clear h0 h1 h2 h3 h6 hvn hrows hK hcells e0 e1 e2 e3
    go_wp2
    obtain ⟨q1, q2, q3, q4⟩ := HX.out (.slice a0 n0 k0) (.slice a1 n1 k1) (.slice a2 n2 k2) (.slice a3 n3 k3)
    refine leave_mark q2 (v := .agg #[.slice a0 n0 k0, .slice a1 n1 k1, .slice a2 n2 k2, .slice a3 n3 k3]) ?_ ⟨U, by rw [Hcells.out], q4, fun i hi => ?_, below_put q3 _ (by omega) q3.size⟩
    · exact results_cell_row Try.results49 _ _ w.heap.size 61 _ (0, 0) _ rfl (blk_put q1 _ (by omega)) Try.underlying61 rfl vnInfo
    · rw [Hrows.out i hi, List.take_length, levT_tabs, if_pos hi]
  case stop => exact fun D c k X _ _ _ h _ => h.elim
end Go.Proofs.Ythjjelomlgmllaa.Tithe
