/- Version.Over, At: walked. -/
import Derived.Test.YtcmndnglmpkpdaaDoorLevOwn
namespace Go.Proofs.YtcmndnglmpkpdaaDoor.Tithe
open Go.RowKit Go.Sort Go.Shelf
set_option linter.unusedVariables false
set_option linter.unusedSimpArgs false
set_option maxRecDepth 100000
/-! ### Over -/
def overB (lv : Int) (sm lg : ByteArray) (p : Nat × Mr) : Bool := decide ((p.1 : Int) = lv) && (decide (cmpB sm lg ≤ 0) && (decide (cmpB p.2.1.a.u lg ≤ 0) && decide (cmpB sm p.2.1.b.u ≤ 0)))
def OverI (w : World) (base : Nat) (V : Vn) (lv : Int) (sm lg : ByteArray) (k : Nat) (W : World) : Prop :=
  W.heap[w.heap.size]? = some (.cells V.cells 26 (0, 0)) ∧ W.heap[w.heap.size + 1]? = some (.cells #[.int .i64 lv] 3 (0, 0)) ∧ W.heap[w.heap.size + 1 + 1]? = some (.cells #[.string sm] 9 (0, 0)) ∧ W.heap[w.heap.size + 1 + 1 + 1]? = some (.cells #[.string lg] 9 (0, 0)) ∧
  (∃ x rows, W.heap[w.heap.size + 1 + 1 + 1 + 1]? = some (.cells #[x] 23 (0, 0)) ∧ OwnMs W base x rows ∧ rows.map (·.1) = (((tabs V.l 4).take k).filter (overB lv sm lg)).map (·.2.1)) ∧
  W.heap[w.heap.size + 1 + 1 + 1 + 1 + 1]? = some (.cells #[.pointer (some ⟨w.heap.size, 0, none⟩)] 101 (0, 0)) ∧ Below w.heap.size w W
theorem overI_own {w : World} {base : Nat} {V : Vn} {lv : Int} {sm lg : ByteArray} {B : Nat} (hB : w.heap.size ≤ B) : OwnFrom B (OverI w base V lv sm lg) :=
  st_and (st_blk _ _ _ _) (st_and (st_blk _ _ _ _) (st_and (st_blk _ _ _ _) (st_and (st_blk _ _ _ _) (st_and (st_ex fun x => st_ex fun rows => st_and (st_blk _ _ _ _) (st_and (st_ms _ _ _) (st_pure _))) (st_and (st_blk _ _ _ _) (st_below (Nat.le_refl _) hB))))))
attribute [local go_sem] Oper.semAt_some
--@[
set_option maxHeartbeats 6400000 in
theorem over_any (V : Vn) (lv : Int) (sm lg : ByteArray) (w : World) (h : IsVn w V) (hl : (tabs V.l 4).length ≤ 100000) (hrl : ∀ p ∈ tabs V.l 4, p.2.1.refs.length ≤ 1000000) :
    Calls Tryd.prog 17 #[.agg V.cells, .int .i64 lv, .string sm, .string lg] w fun e w' => ∃ x rows, e = .returned x ∧ OwnMs w' w.heap.size x rows ∧ rows.map (·.1) = ((tabs V.l 4).filter (overB lv sm lg)).map (·.2.1) ∧ Below w.heap.size w w' := by
  have H := Lib.hid h
  have Hl := Lib.hid hrl
  clear h hrl
  unfold Vn.cells
  refine calls_of_marks Tryd.func17 rfl ?_
  simp only [Tryd.ntmps17, List.size_toArray, List.length_cons, List.length_nil, Nat.reduceAdd, Nat.reduceSub, Array.replicate_succ, Array.replicate_zero, List.push_toArray, List.append_toArray, List.nil_append, List.cons_append]
  go_wp2_with fail
  refine (all_any _ _).mono ?_
  rintro e w' ⟨rfl, rfl⟩
  go_wp2_with fail
  generalize hW : (((((w.alloc (.cells #[V.v 0, V.v 1, V.v 2, V.v 3] 26)).alloc (.cells #[.int .i64 lv] 3)).alloc (.cells #[.string sm] 9)).alloc (.cells #[.string lg] 9)).alloc (.cells #[.slice none 0 0] 23)).alloc (.cells #[.pointer (some ⟨w.heap.size, 0, none⟩)] 101) = W
  have hWs : W.heap.size = w.heap.size + 1 + 1 + 1 + 1 + 1 + 1 := by rw [← hW]; simp only [World.size_alloc]
  have hI : OverI w W.heap.size V lv sm lg 0 W := by
    rw [← hW]
    exact ⟨blk_old (blk_old (blk_old (blk_old (blk_old (blk_new rfl _) _) _) _) _) _, blk_old (blk_old (blk_old (blk_old (blk_new (by simp only [World.size_alloc]) _) _) _) _) _, blk_old (blk_old (blk_old (blk_new (by simp only [World.size_alloc]) _) _) _) _, blk_old (blk_old (blk_new (by simp only [World.size_alloc]) _) _) _, ⟨_, [], blk_old (blk_new (by simp only [World.size_alloc]) _) _, OwnMs.nil _ _, rfl⟩, blk_new (by simp only [World.size_alloc]) _,
      ((((((Below.refl _ _).alloc (Nat.le_refl _) _).alloc (by simp) _).alloc (by simp; omega) _).alloc (by simp; omega) _).alloc (by simp; omega) _).alloc (by simp; omega) _⟩
  clear hW
  have HWs := Lib.hid hWs
  clear hWs
  refine range_lawS (gf := 42) (lb := #[.pointer (some ⟨w.heap.size + 1 + 1 + 1 + 1 + 1, 0, none⟩)]) rfl (enters_of Tryd.func42 (by kernel_rfl) rfl)
    (all_iter (w.heap.size + 1 + 1 + 1 + 1 + 1) w.heap.size V w H.out) (tabEnc_size V.l) (OverI w W.heap.size V lv sm lg) (fun _ _ _ => False) (fun k X hX => ⟨hX.2.2.2.2.2.1, hX.1, hX.2.2.2.2.2.2⟩) (overI_own (by rw [HWs.out]; omega)) (fun c k X Y row h _ _ => h) hI ?round ?done ?stop
  case round =>
    rintro yl k X hk hXs ⟨h0, h1, h2, h3, h4, h5, h6⟩
    obtain ⟨p, hp⟩ : ∃ p, (tabs V.l 4)[k]? = some p := ⟨_, List.getElem?_eq_getElem hk⟩
    rw [tabEnc_at V.l hp]
    have hrr := tabs_rr H.out hp
    have hpl := Hl.out p (List.mem_of_getElem? hp)
    have htk : (tabs V.l 4).take (k + 1) = (tabs V.l 4).take k ++ [p] := by rw [List.take_add_one, hp]; rfl
    obtain ⟨n, ⟨⟨mz, mn, a, b, refs⟩, vr⟩⟩ := p
    dsimp only at hrr hpl
    obtain ⟨ra, rc, hrv, -, -, -⟩ := id hrr
    subst hrv
    have Hrr := Lib.hid hrr
    have Htk := Lib.hid htk
    have H0 := Lib.hid h0
    have H1 := Lib.hid h1
    have H2 := Lib.hid h2
    have H3 := Lib.hid h3
    have H4 := Lib.hid h4
    have H5 := Lib.hid h5
    have H6 := Lib.hid h6
    clear hp h0 h1 h2 h3 h4 h5 h6 hrr htk
    obtain ⟨rn, hrn⟩ : ∃ rn, rn = refs.length := ⟨_, rfl⟩
    rw [← hrn] at Hrr Htk ⊢
    have Hrn := Lib.hid hrn
    clear hrn
    unfold mrC
    dsimp only
    gi_wp2
    refine ⟨keeps_of ((Below.refl _ _).alloc (Nat.le_refl _) _), ?_⟩
    intro Y hY
    have hI2 : OverI w W.heap.size V lv sm lg k Y := st_turn (overI_own (by rw [HWs.out]; omega)) hY (by
      obtain ⟨x, rows, q1, q2, q3⟩ := H4.out
      exact ⟨blk_old H0.out _, blk_old H1.out _, blk_old H2.out _, blk_old H3.out _, ⟨x, rows, blk_old q1 _, q2.below ((Below.refl _ _).alloc (Nat.le_refl _) _), q3⟩, blk_old H5.out _, H6.out.alloc H6.out.size _⟩)
    have hm := blk_turn hY (blk_new rfl (.cells #[.int .i64 mz, .int .i64 mn, .string a.u, .int .i64 a.s, .int .i64 a.k, .string b.u, .int .i64 b.s, .int .i64 b.k, .slice ra rn rc] 49))
    obtain ⟨h0, h1, h2, h3, ⟨x, rows, h4, hms, hrows⟩, h5, h6⟩ := hI2
    have n2 : Y.cell? ⟨X.heap.size, 2, none⟩ = some (.string a.u) := (cell_of_blk hm 2).trans rfl
    have n5 : Y.cell? ⟨X.heap.size, 5, none⟩ = some (.string b.u) := (cell_of_blk hm 5).trans rfl
    have c1 : Y.cell? ⟨w.heap.size + 1, 0, none⟩ = some (.int .i64 lv) := (cell_of_blk h1 0).trans rfl
    have c2 : Y.cell? ⟨w.heap.size + 1 + 1, 0, none⟩ = some (.string sm) := (cell_of_blk h2 0).trans rfl
    have c3 : Y.cell? ⟨w.heap.size + 1 + 1 + 1, 0, none⟩ = some (.string lg) := (cell_of_blk h3 0).trans rfl
    have l1 := leq_cmpB sm lg
    have l2 := leq_cmpB a.u lg
    have l3 := leq_cmpB sm b.u
    clear H0 H1 H2 H3 H4 H5 H6
    have hno : overB lv sm lg (n, (⟨mz, mn, a, b, refs⟩, .slice ra rn rc)) = false → KeepsFrom W.heap.size Y Y ∧ OverI w W.heap.size V lv sm lg (k + 1) Y := fun hf =>
      ⟨KeepsFrom.refl _ _, h0, h1, h2, h3, ⟨x, rows, h4, hms, by rw [hrows, Htk.out, List.filter_append, List.filter_cons_of_neg (by rw [hf]; decide)]; simp⟩, h5, h6⟩
    have Hno := Lib.hid hno
    unfold overB at Hno
    dsimp only at Hno
    by_cases g1 : (n : Int) = lv
    rotate_left
    · have gd : decide ((n : Int) = lv) = false := by simp [g1]
      have gd2 : ((n : Int) == lv) = false := by simpa using g1
      rw [gd] at Hno
      have HN := Lib.hid (Hno.out rfl)
      clear hno Hno hm h0 h1 h2 h3 h4 h5 h6 hms hrows hY gd
      gi_wp2
      exact HN.out
    cases g2 : decide (cmpB sm lg ≤ 0) with
    | false =>
      rw [g2] at l1 Hno
      have gd2 : ((n : Int) == lv) = true := by simpa using g1
      have HN := Lib.hid (Hno.out (by simp))
      clear hno Hno hm h0 h1 h2 h3 h4 h5 h6 hms hrows hY
      gi_wp2
      exact HN.out
    | true =>
    cases g3 : decide (cmpB a.u lg ≤ 0) with
    | false =>
      rw [g2] at l1
      rw [g3] at l2 Hno
      have gd2 : ((n : Int) == lv) = true := by simpa using g1
      have HN := Lib.hid (Hno.out (by simp))
      clear hno Hno hm h0 h1 h2 h3 h4 h5 h6 hms hrows hY
      gi_wp2
      exact HN.out
    | true =>
    cases g4 : decide (cmpB sm b.u ≤ 0) with
    | false =>
      rw [g2] at l1
      rw [g3] at l2
      rw [g4] at l3 Hno
      have gd2 : ((n : Int) == lv) = true := by simpa using g1
      have HN := Lib.hid (Hno.out (by simp))
      clear hno Hno hm h0 h1 h2 h3 h4 h5 h6 hms hrows hY
      gi_wp2
      exact HN.out
    | true =>
    rw [g2] at l1
    rw [g3] at l2
    rw [g4] at l3
    have hyes : overB lv sm lg (n, (⟨mz, mn, a, b, refs⟩, .slice ra rn rc)) = true := by unfold overB; simp [g1, of_decide_eq_true g2, of_decide_eq_true g3, of_decide_eq_true g4]
    have M0 := (cell_of_blk (w := Y.drew) hm 0).trans (show _ = some (.int .i64 mz) from rfl)
    have M1 := (cell_of_blk (w := Y.drew) hm 1).trans (show _ = some (.int .i64 mn) from rfl)
    have M2 := (cell_of_blk (w := Y.drew) hm 2).trans (show _ = some (.string a.u) from rfl)
    have M3 := (cell_of_blk (w := Y.drew) hm 3).trans (show _ = some (.int .i64 a.s) from rfl)
    have M4 := (cell_of_blk (w := Y.drew) hm 4).trans (show _ = some (.int .i64 a.k) from rfl)
    have M5 := (cell_of_blk (w := Y.drew) hm 5).trans (show _ = some (.string b.u) from rfl)
    have M6 := (cell_of_blk (w := Y.drew) hm 6).trans (show _ = some (.int .i64 b.s) from rfl)
    have M7 := (cell_of_blk (w := Y.drew) hm 7).trans (show _ = some (.int .i64 b.k) from rfl)
    have M8 := (cell_of_blk (w := Y.drew) hm 8).trans (show _ = some (.slice ra rn rc) from rfl)
    have hmc' := Lib.hid (mcopied_any mz mn a b (.slice ra rn rc) refs Y.drew (Hrr.out.below (h6.drew)) hpl)
    have hrl : rows.length ≤ k := by
      have := congrArg List.length hrows
      rw [List.length_map, List.length_map] at this
      have q := List.length_filter_le (overB lv sm lg) ((tabs V.l 4).take k)
      rw [List.length_take] at q
      omega
    obtain ⟨xa, xc, rfl⟩ := own_slice hms.1
    obtain ⟨rl, hrlE⟩ : ∃ rl, rl = rows.length := ⟨_, rfl⟩
    rw [← hrlE] at hrl h4 hms
    have cx : Y.drew.cell? ⟨w.heap.size + 1 + 1 + 1 + 1, 0, none⟩ = some (.slice xa rl xc) := (cell_of_blk (w := Y.drew) h4 0).trans rfl
    have hYW : W.heap.size ≤ Y.heap.size := Nat.le_trans hXs (Nat.le_trans (by simp) hY.size)
    have Hpush := Lib.hid (copy_push Y W.heap.size ⟨w.heap.size + 1 + 1 + 1 + 1, 0, none⟩ xa rl xc rows mz mn a b refs (by rw [HWs.out]; show w.heap.size + 1 + 1 + 1 + 1 < _; omega) hYW cx (frozen_of_blk h4 0) hms (by omega))
    have hfin : ∀ (w2 : World) (ya : Option Addr) (yc : Nat) (va : Option Addr) (vc : Nat), Hid (CopyOut Y W.heap.size (.slice xa rl xc) (.slice ya (rl + 1) yc) w2 rows (rows ++ [(⟨mz, mn, a, b, refs⟩, .slice va refs.length vc)])) →
        KeepsFrom W.heap.size Y (w2.setCell ⟨w.heap.size + 1 + 1 + 1 + 1, 0, none⟩ (.slice ya (rl + 1) yc)) ∧ OverI w W.heap.size V lv sm lg (k + 1) (w2.setCell ⟨w.heap.size + 1 + 1 + 1 + 1, 0, none⟩ (.slice ya (rl + 1) yc)) := by
      rintro w2 ya yc va vc ⟨hk2, hkb, hbel, qm, -, -⟩
      have hs := HWs.out
      refine ⟨(hk2.trans (KeepsOthers.setCell _ _ _)).from _, (Below.heap_setCell _ ⟨w.heap.size + 1 + 1 + 1 + 1, 0, none⟩ _ _ (by show w.heap.size ≠ w.heap.size + 1 + 1 + 1 + 1; omega)).trans (hkb _ _ (by omega) h0), (Below.heap_setCell _ _ _ _ (by simp)).trans (hkb _ _ (by omega) h1), (Below.heap_setCell _ _ _ _ (by simp)).trans (hkb _ _ (by omega) h2), (Below.heap_setCell _ _ _ _ (by simp)).trans (hkb _ _ (by omega) h3), ⟨_, _, (blk_set (hkb _ _ (by omega) h4)).trans rfl, qm.far (grown_set _ _ _ _) (fun r e => by cases e; omega), ?_⟩, (Below.heap_setCell _ _ _ _ (by simp)).trans (hkb _ _ (by omega) h5), (hbel _ _ (by omega) h6).setCell (by simp; omega) _⟩
      rw [List.map_append, hrows, Htk.out, List.filter_append, List.filter_cons_of_pos hyes, List.map_append]; rfl
    have Hfin := Lib.hid hfin
    have gd2 : ((n : Int) == lv) = true := by simpa using g1
    have hlt1 : w.heap.size + 1 + 1 + 1 + 1 < Y.heap.size := blk_lt h4
    have hkl : k ≤ 100000 := by omega
    have HrlE := Lib.hid hrlE
    clear hrlE hfin hno Hno hm h0 h1 h2 h3 h4 h5 h6 hms hrows hY g2 g3 g4 hyes
    gi_wp2_with fail
    refine round_held (S := fun _ => True) (by kernel_rfl) (by kernel_rfl) ?hlo trivial (fun _ => ?_)
    case hlo => rintro ⟨a, w, h⟩; exact h
    refine wpAnyH_ready (rs := [0, 1]) (by kernel_rfl) (by simp) (AllReadyH.cons rfl (fun K hK => ?_) (AllReadyH.cons rfl (fun K hK => ?_) AllReadyH.nil))
    · go_simp
      refine hK.out _ _ trivial (fun _ => ?_)
      clear hK K
      try simp only [Act.put, List.setIfInBounds_toArray, List.set_cons_zero, List.set_cons_succ]
      refine wpAnyH_ready (rs := [1]) (by kernel_rfl) (by simp) (AllReadyH.cons rfl (fun K hK => ?_) AllReadyH.nil)
      go_simp
      refine hK.out _ _ trivial (fun _ => ?_)
      clear hK K
      try simp only [Act.put, List.setIfInBounds_toArray, List.set_cons_zero, List.set_cons_succ]
      refine wpAnyH_ready (rs := [2]) (by kernel_rfl) (by simp) (AllReadyH.cons rfl (fun K hK => ?_) AllReadyH.nil)
      go_simp
      refine hmc'.out.mono ?_
      rintro e w1 ⟨v', rfl, ho1, hb1⟩
      obtain ⟨va, vc, rfl⟩ := own_slice ho1
      obtain ⟨cx1, ya, yc, w2, happ, cx2, cz2, HP⟩ := Hpush.out w1 va vc ho1 hb1
      have cx1a := fun o => grow_alloc cx1 o
      clear ho1 hb1
      refine hK.out _ _ trivial (fun _ => ?_)
      clear hK K
      try simp only [Act.put, List.setIfInBounds_toArray, List.set_cons_zero, List.set_cons_succ]
      refine wpAnyH_ready (rs := [3]) (by kernel_rfl) (by simp) (AllReadyH.cons rfl (fun K hK => ?_) AllReadyH.nil)
      go_simp
      refine hK.out _ _ trivial (fun _ => ?_)
      clear hK K
      try simp only [Act.put, List.setIfInBounds_toArray, List.set_cons_zero, List.set_cons_succ]
      refine wpAnyH_ready (rs := [4]) (by kernel_rfl) (by simp) (AllReadyH.cons rfl (fun K hK => ?_) AllReadyH.nil)
      rw [if_pos (by rfl)]
      refine wp_append_run (.tmp 37) (.tmp 40) 23 rfl _ _ _ _ rfl rfl happ (hK.out _ _ trivial (fun _ => ?_))
      clear hK K
      try simp only [Act.put, List.setIfInBounds_toArray, List.set_cons_zero, List.set_cons_succ]
      refine wpAnyH_ready (rs := [5]) (by kernel_rfl) (by simp) (AllReadyH.cons rfl (fun K hK => ?_) AllReadyH.nil)
      go_simp
      refine hK.out _ _ trivial (fun _ => ?_)
      clear hK K
      try simp only [Act.put, List.setIfInBounds_toArray, List.set_cons_zero, List.set_cons_succ]
      refine wpAnyH_done (by kernel_rfl) ?_ _
      exact Hfin.out w2 ya yc va vc HP
    · go_simp
      refine hK.out _ _ trivial (fun _ => ?_)
      clear hK K
      try simp only [Act.put, List.setIfInBounds_toArray, List.set_cons_zero, List.set_cons_succ]
      refine wpAnyH_ready (rs := [0, 2]) (by kernel_rfl) (by simp) (AllReadyH.cons rfl (fun K hK => ?_) (AllReadyH.cons rfl (fun K hK => ?_) AllReadyH.nil))
      · go_simp
        refine hK.out _ _ trivial (fun _ => ?_)
        clear hK K
        try simp only [Act.put, List.setIfInBounds_toArray, List.set_cons_zero, List.set_cons_succ]
        refine wpAnyH_ready (rs := [2]) (by kernel_rfl) (by simp) (AllReadyH.cons rfl (fun K hK => ?_) AllReadyH.nil)
        go_simp
        refine hmc'.out.mono ?_
        rintro e w1 ⟨v', rfl, ho1, hb1⟩
        obtain ⟨va, vc, rfl⟩ := own_slice ho1
        obtain ⟨cx1, ya, yc, w2, happ, cx2, cz2, HP⟩ := Hpush.out w1 va vc ho1 hb1
        have cx1a := fun o => grow_alloc cx1 o
        clear ho1 hb1
        refine hK.out _ _ trivial (fun _ => ?_)
        clear hK K
        try simp only [Act.put, List.setIfInBounds_toArray, List.set_cons_zero, List.set_cons_succ]
        refine wpAnyH_ready (rs := [3]) (by kernel_rfl) (by simp) (AllReadyH.cons rfl (fun K hK => ?_) AllReadyH.nil)
        go_simp
        refine hK.out _ _ trivial (fun _ => ?_)
        clear hK K
        try simp only [Act.put, List.setIfInBounds_toArray, List.set_cons_zero, List.set_cons_succ]
        refine wpAnyH_ready (rs := [4]) (by kernel_rfl) (by simp) (AllReadyH.cons rfl (fun K hK => ?_) AllReadyH.nil)
        rw [if_pos (by rfl)]
        refine wp_append_run (.tmp 37) (.tmp 40) 23 rfl _ _ _ _ rfl rfl happ (hK.out _ _ trivial (fun _ => ?_))
        clear hK K
        try simp only [Act.put, List.setIfInBounds_toArray, List.set_cons_zero, List.set_cons_succ]
        refine wpAnyH_ready (rs := [5]) (by kernel_rfl) (by simp) (AllReadyH.cons rfl (fun K hK => ?_) AllReadyH.nil)
        go_simp
        refine hK.out _ _ trivial (fun _ => ?_)
        clear hK K
        try simp only [Act.put, List.setIfInBounds_toArray, List.set_cons_zero, List.set_cons_succ]
        refine wpAnyH_done (by kernel_rfl) ?_ _
        exact Hfin.out w2 ya yc va vc HP
      · go_simp
        refine hmc'.out.mono ?_
        rintro e w1 ⟨v', rfl, ho1, hb1⟩
        obtain ⟨va, vc, rfl⟩ := own_slice ho1
        obtain ⟨cx1, ya, yc, w2, happ, cx2, cz2, HP⟩ := Hpush.out w1 va vc ho1 hb1
        have cx1a := fun o => grow_alloc cx1 o
        clear ho1 hb1
        refine hK.out _ _ trivial (fun _ => ?_)
        clear hK K
        try simp only [Act.put, List.setIfInBounds_toArray, List.set_cons_zero, List.set_cons_succ]
        refine wpAnyH_ready (rs := [0, 3]) (by kernel_rfl) (by simp) (AllReadyH.cons rfl (fun K hK => ?_) (AllReadyH.cons rfl (fun K hK => ?_) AllReadyH.nil))
        · go_simp
          refine hK.out _ _ trivial (fun _ => ?_)
          clear hK K
          try simp only [Act.put, List.setIfInBounds_toArray, List.set_cons_zero, List.set_cons_succ]
          refine wpAnyH_ready (rs := [3]) (by kernel_rfl) (by simp) (AllReadyH.cons rfl (fun K hK => ?_) AllReadyH.nil)
          go_simp
          refine hK.out _ _ trivial (fun _ => ?_)
          clear hK K
          try simp only [Act.put, List.setIfInBounds_toArray, List.set_cons_zero, List.set_cons_succ]
          refine wpAnyH_ready (rs := [4]) (by kernel_rfl) (by simp) (AllReadyH.cons rfl (fun K hK => ?_) AllReadyH.nil)
          rw [if_pos (by rfl)]
          refine wp_append_run (.tmp 37) (.tmp 40) 23 rfl _ _ _ _ rfl rfl happ (hK.out _ _ trivial (fun _ => ?_))
          clear hK K
          try simp only [Act.put, List.setIfInBounds_toArray, List.set_cons_zero, List.set_cons_succ]
          refine wpAnyH_ready (rs := [5]) (by kernel_rfl) (by simp) (AllReadyH.cons rfl (fun K hK => ?_) AllReadyH.nil)
          go_simp
          refine hK.out _ _ trivial (fun _ => ?_)
          clear hK K
          try simp only [Act.put, List.setIfInBounds_toArray, List.set_cons_zero, List.set_cons_succ]
          refine wpAnyH_done (by kernel_rfl) ?_ _
          exact Hfin.out w2 ya yc va vc HP
        · go_simp
          refine hK.out _ _ trivial (fun _ => ?_)
          clear hK K
          try simp only [Act.put, List.setIfInBounds_toArray, List.set_cons_zero, List.set_cons_succ]
          refine wpAnyH_ready (rs := [0]) (by kernel_rfl) (by simp) (AllReadyH.cons rfl (fun K hK => ?_) AllReadyH.nil)
          go_simp
          refine hK.out _ _ trivial (fun _ => ?_)
          clear hK K
          try simp only [Act.put, List.setIfInBounds_toArray, List.set_cons_zero, List.set_cons_succ]
          refine wpAnyH_ready (rs := [4]) (by kernel_rfl) (by simp) (AllReadyH.cons rfl (fun K hK => ?_) AllReadyH.nil)
          rw [if_pos (by rfl)]
          refine wp_append_run (.tmp 37) (.tmp 40) 23 rfl _ _ _ _ rfl rfl happ (hK.out _ _ trivial (fun _ => ?_))
          clear hK K
          try simp only [Act.put, List.setIfInBounds_toArray, List.set_cons_zero, List.set_cons_succ]
          refine wpAnyH_ready (rs := [5]) (by kernel_rfl) (by simp) (AllReadyH.cons rfl (fun K hK => ?_) AllReadyH.nil)
          go_simp
          refine hK.out _ _ trivial (fun _ => ?_)
          clear hK K
          try simp only [Act.put, List.setIfInBounds_toArray, List.set_cons_zero, List.set_cons_succ]
          refine wpAnyH_done (by kernel_rfl) ?_ _
          exact Hfin.out w2 ya yc va vc HP
  case done =>
    rintro D X hD hXs ⟨h0, h1, h2, h3, ⟨x, rows, h4, hms, hrows⟩, h5, h6⟩ hK
    have hturn : BookTurn W.heap.size X (X.putObj D (.deferred none)) := ⟨some D, grownBy_putObj _ _ _, fun r e => by cases e; exact ⟨hD, _, hK, rfl⟩⟩
    have hms2 : OwnMs (X.putObj D (.deferred none)) W.heap.size x rows := st_turn (I := fun (_ : Unit) Z => OwnMs Z W.heap.size x rows) (s := ()) (st_ms _ _ _) hturn hms
    have hb2 : Below w.heap.size w (X.putObj D (.deferred none)) := below_put h6 _ (by rw [HWs.out] at hD; omega) h6.size
    have c1 : X.cell? ⟨w.heap.size + 1 + 1 + 1 + 1, 0, none⟩ = some x := (cell_of_blk h4 0).trans rfl
    have Hms2 := Lib.hid (hms2.mono (b2 := w.heap.size) (by rw [HWs.out]; omega))
    have Hb2 := Lib.hid hb2
    have Hrows := Lib.hid hrows
    have HK := Lib.hid hK
    clear h0 h1 h2 h3 h4 h5 h6 hms hrows hK hturn hms2 hb2
    go_wp2
    refine leave_mark HK.out (v := x) ?_ ⟨x, rows, rfl, Hms2.out, ?_, Hb2.out⟩
    · simp [results, Tryd.results17, go_sem]
    · rw [Hrows.out, List.take_length]
  case stop => exact fun D c k X _ _ _ h _ => h.elim
--@]
end Go.Proofs.YtcmndnglmpkpdaaDoor.Tithe
