/- The document's Next and Press: walked. -/
import Derived.Test.YtcmndnglmpkpdaaDoorPickOf
import Derived.Test.YtcmndnglmpkpdaaDoorPickPress
namespace Go.Proofs.YtcmndnglmpkpdaaDoor.Tithe
open Go.RowKit Go.Sort Go.Shelf
set_option linter.unusedVariables false
set_option linter.unusedSimpArgs false
set_option maxRecDepth 100000
theorem put_plan2 {w W : World} {base rb : Nat} {p : Pn} {ua la : Option Addr} {un uc ln lc : Nat} (hr : W.heap[rb]? = some (.cells #[.int .i64 0, .int .i64 0, .slice none 0 0, .slice none 0 0, .string ⟨#[]⟩] 38 (0, 0))) (h : PlanIs W base #[.int .i64 p.frm, .int .i64 p.dest, .slice ua un uc, .slice la ln lc, .string p.upto] p) (hb : Below w.heap.size w W) (hw : w.heap.size ≤ rb) (hrb : rb < base) (hbase : w.heap.size ≤ base) :
    ((((((W.setCell ⟨rb, 0, none⟩ (.int .i64 p.frm)).setCell ⟨rb, 1, none⟩ (.int .i64 p.dest)).setCell ⟨rb, 2, none⟩ (.slice ua un uc)).setCell ⟨rb, 3, none⟩ (.slice la ln lc)).setCell ⟨rb, 4, none⟩ (.string p.upto))).heap[rb]? = some (.cells #[.int .i64 p.frm, .int .i64 p.dest, .slice ua un uc, .slice la ln lc, .string p.upto] 38 (0, 0)) ∧ PlanIs ((((((W.setCell ⟨rb, 0, none⟩ (.int .i64 p.frm)).setCell ⟨rb, 1, none⟩ (.int .i64 p.dest)).setCell ⟨rb, 2, none⟩ (.slice ua un uc)).setCell ⟨rb, 3, none⟩ (.slice la ln lc)).setCell ⟨rb, 4, none⟩ (.string p.upto))) w.heap.size #[.int .i64 p.frm, .int .i64 p.dest, .slice ua un uc, .slice la ln lc, .string p.upto] p ∧ Below w.heap.size w ((((((W.setCell ⟨rb, 0, none⟩ (.int .i64 p.frm)).setCell ⟨rb, 1, none⟩ (.int .i64 p.dest)).setCell ⟨rb, 2, none⟩ (.slice ua un uc)).setCell ⟨rb, 3, none⟩ (.slice la ln lc)).setCell ⟨rb, 4, none⟩ (.string p.upto))) :=
  ⟨(blk_set (blk_set (blk_set (blk_set (blk_set hr))))).trans rfl, (((((h.set hrb).set hrb).set hrb).set hrb).set hrb).mono hbase, ((((hb.setCell (p := ⟨rb, 0, none⟩) hw _).setCell (p := ⟨rb, 1, none⟩) hw _).setCell (p := ⟨rb, 2, none⟩) hw _).setCell (p := ⟨rb, 3, none⟩) hw _).setCell (p := ⟨rb, 4, none⟩) hw _⟩
theorem put_zero2 {w W : World} {rb : Nat} (hr : W.heap[rb]? = some (.cells #[.int .i64 0, .int .i64 0, .slice none 0 0, .slice none 0 0, .string ⟨#[]⟩] 38 (0, 0))) (hb : Below w.heap.size w W) (hw : w.heap.size ≤ rb) :
    ((((((W.setCell ⟨rb, 0, none⟩ (.int .i64 0)).setCell ⟨rb, 1, none⟩ (.int .i64 0)).setCell ⟨rb, 2, none⟩ (.slice none 0 0)).setCell ⟨rb, 3, none⟩ (.slice none 0 0)).setCell ⟨rb, 4, none⟩ (.string ⟨#[]⟩))).heap[rb]? = some (.cells #[.int .i64 0, .int .i64 0, .slice none 0 0, .slice none 0 0, .string ⟨#[]⟩] 38 (0, 0)) ∧ Below w.heap.size w ((((((W.setCell ⟨rb, 0, none⟩ (.int .i64 0)).setCell ⟨rb, 1, none⟩ (.int .i64 0)).setCell ⟨rb, 2, none⟩ (.slice none 0 0)).setCell ⟨rb, 3, none⟩ (.slice none 0 0)).setCell ⟨rb, 4, none⟩ (.string ⟨#[]⟩))) :=
  ⟨(blk_set (blk_set (blk_set (blk_set (blk_set hr))))).trans rfl, ((((hb.setCell (p := ⟨rb, 0, none⟩) hw _).setCell (p := ⟨rb, 1, none⟩) hw _).setCell (p := ⟨rb, 2, none⟩) hw _).setCell (p := ⟨rb, 3, none⟩) hw _).setCell (p := ⟨rb, 4, none⟩) hw _⟩
attribute [local go_sem] Oper.semAt_some
set_option maxHeartbeats 3200000 in
theorem rnext_any (X : Vn) (xb : Nat) (w : World) (hxb : w.heap[xb]? = some (.cells X.cells 68 (0, 0))) (hX : IsVn w X) (hl : ∀ n, n < 4 → (X.l n).length ≤ 100000) (hgd : ∀ n, n < 4 → ∀ r ∈ X.l n, gdM r.1) :
    Calls Tryd.prog 12 #[.pointer (some ⟨xb, 0, none⟩)] w fun e w' => Hid (NextOut w X.l (fullN X.l) e w') := by
  have HAl : Hid (Below w.heap.size w (w.alloc (.cells #[.int .i64 0, .int .i64 0, .slice none 0 0, .slice none 0 0, .string ⟨#[]⟩] 38))) := Lib.hid ((Below.refl _ _).alloc (Nat.le_refl _) _)
  have HR : Hid ((w.alloc (.cells #[.int .i64 0, .int .i64 0, .slice none 0 0, .slice none 0 0, .string ⟨#[]⟩] 38)).heap[w.heap.size]? = some (.cells #[.int .i64 0, .int .i64 0, .slice none 0 0, .slice none 0 0, .string ⟨#[]⟩] 38 (0, 0))) := Lib.hid (blk_of_alloc _ _)
  have HX1 := Lib.hid (hX.below HAl.out)
  have Hxb := Lib.hid (blk_bels HAl.out hxb)
  have Hl := Lib.hid hl
  have HPA := Lib.hid (fun (A : World) (hA : Below w.heap.size w A) (n : Nat) (hn : n < 3) (hlen : 0 < (X.l n).length) => rof_any X xb n A (blk_bels hA hxb) (hX.below hA) hn hlen hl hgd)
  have HPl := Lib.hid (HPA.out _ HAl.out)
  clear hX hl hgd hxb
  go_enter Tryd.func12, Tryd.ntmps12
  go_upto_region 1 with fail
  generalize w.alloc (.cells #[.int .i64 0, .int .i64 0, .slice none 0 0, .slice none 0 0, .string ⟨#[]⟩] 38) = W1 at *
  obtain ⟨a0, c0, hsv0⟩ := isMr_slice (HX1.out 0 (by decide))
  obtain ⟨K0, hK0⟩ : ∃ K, K = (X.l 0).length := ⟨_, rfl⟩
  have HK0 := Lib.hid hK0
  have hk0 : K0 ≤ 100000 := by rw [hK0]; exact Hl.out 0 (by decide)
  have hc0 : W1.cell? ⟨xb, 0, none⟩ = some (.slice a0 K0 c0) := (cell_of_blk Hxb.out 0).trans (by rw [vn_cell X (by decide), hsv0, ← hK0])
  clear hsv0 hK0
  obtain ⟨a1, c1, hsv1⟩ := isMr_slice (HX1.out 1 (by decide))
  obtain ⟨K1, hK1⟩ : ∃ K, K = (X.l 1).length := ⟨_, rfl⟩
  have HK1 := Lib.hid hK1
  have hk1 : K1 ≤ 100000 := by rw [hK1]; exact Hl.out 1 (by decide)
  have hc1 : W1.cell? ⟨xb, 1, none⟩ = some (.slice a1 K1 c1) := (cell_of_blk Hxb.out 1).trans (by rw [vn_cell X (by decide), hsv1, ← hK1])
  clear hsv1 hK1
  obtain ⟨a2, c2, hsv2⟩ := isMr_slice (HX1.out 2 (by decide))
  obtain ⟨K2, hK2⟩ : ∃ K, K = (X.l 2).length := ⟨_, rfl⟩
  have HK2 := Lib.hid hK2
  have hk2 : K2 ≤ 100000 := by rw [hK2]; exact Hl.out 2 (by decide)
  have hc2 : W1.cell? ⟨xb, 2, none⟩ = some (.slice a2 K2 c2) := (cell_of_blk Hxb.out 2).trans (by rw [vn_cell X (by decide), hsv2, ← hK2])
  clear hsv2 hK2
  obtain ⟨a3, c3, hsv3⟩ := isMr_slice (HX1.out 3 (by decide))
  obtain ⟨K3, hK3⟩ : ∃ K, K = (X.l 3).length := ⟨_, rfl⟩
  have HK3 := Lib.hid hK3
  have hk3 : K3 ≤ 100000 := by rw [hK3]; exact Hl.out 3 (by decide)
  have hc3 : W1.cell? ⟨xb, 3, none⟩ = some (.slice a3 K3 c3) := (cell_of_blk Hxb.out 3).trans (by rw [vn_cell X (by decide), hsv3, ← hK3])
  clear hsv3 hK3
  by_cases hb0 : 2 < K0
  · skip
    have d0a : decide ((K0 : Int) > 2) = true := decide_eq_true (by omega)
    have d0b : decide ((2 : Int) < (K0 : Int)) = true := decide_eq_true (by omega)
    have d0c : decide (2 < K0) = true := decide_eq_true (by omega)
    have HP : Hid (Calls Tryd.prog 25 #[.pointer (some ⟨xb, 0, none⟩), .int .i64 0] W1 fun e w' => Hid (∃ cs, e = .returned (.agg cs) ∧ PlanIs w' W1.heap.size cs (planP X.l 0) ∧ Below W1.heap.size W1 w')) := Lib.hid (HPl.out 0 (by decide) (by rw [← HK0.out]; omega))
    have Hfull : Hid (fullN X.l = some 0) := Lib.hid (by unfold fullN; rw [← HK0.out, ← HK1.out, ← HK2.out, show capP 0 = 2 from rfl, show capP 1 = 4 from rfl, show capP 2 = 8 from rfl]; rw [if_pos (by omega)])
    go_wp2_with fail
    refine HP.out.mono ?_
    rintro e w2 q
    obtain ⟨cs, rfl, hpl, hb2⟩ := q.out
    obtain ⟨p, hp⟩ : ∃ p, p = planP X.l 0 := ⟨_, rfl⟩
    rw [← hp] at hpl
    have Hp := Lib.hid hp
    have Hpl := Lib.hid hpl
    obtain ⟨ua, un, uc, la, ln, lc, e, -, -⟩ := hpl
    subst e
    have HR2 := Lib.hid (blk_bels hb2 HR.out)
    have HF := Lib.hid (put_plan2 (rb := w.heap.size) HR2.out Hpl.out (HAl.out.trans (hb2.mono HAl.out.size)) (Nat.le_refl _) (blk_lt HR.out) HAl.out.size)
    have t0 := (cell_of_blk HR2.out 0).trans (show _ = some (.int .i64 0) from rfl)
    have t1 := (cell_of_blk HR2.out 1).trans (show _ = some (.int .i64 0) from rfl)
    have t2 := (cell_of_blk HR2.out 2).trans (show _ = some (.slice none 0 0) from rfl)
    have t3 := (cell_of_blk HR2.out 3).trans (show _ = some (.slice none 0 0) from rfl)
    have t4 := (cell_of_blk HR2.out 4).trans (show _ = some (.string ⟨#[]⟩) from rfl)
    have tz := fun j => frozen_of_blk HR2.out j
    clear q hp hb2
    go_wp2_with fail
    refine bodyPost_ret (results_row_slot Tryd.results12 _ _ w.heap.size 38 _ (0, 0) _ _ rfl rfl HF.out.1 Tryd.underlying38 rfl planInfo2) rfl ?_
    exact Lib.hid ⟨_, _, rfl, by rw [Hfull.out]; exact ⟨rfl, by rw [← Hp.out]; exact HF.out.2.1⟩, HF.out.2.2⟩
  · skip
    have d0a : decide ((K0 : Int) > 2) = false := decide_eq_false (by omega)
    have d0b : decide ((2 : Int) < (K0 : Int)) = false := decide_eq_false (by omega)
    have d0c : decide (2 < K0) = false := decide_eq_false (by omega)
    by_cases hb1 : 4 < K1
    · skip
      have d1a : decide ((K1 : Int) > 4) = true := decide_eq_true (by omega)
      have d1b : decide ((4 : Int) < (K1 : Int)) = true := decide_eq_true (by omega)
      have d1c : decide (4 < K1) = true := decide_eq_true (by omega)
      have HP : Hid (Calls Tryd.prog 25 #[.pointer (some ⟨xb, 0, none⟩), .int .i64 1] W1 fun e w' => Hid (∃ cs, e = .returned (.agg cs) ∧ PlanIs w' W1.heap.size cs (planP X.l 1) ∧ Below W1.heap.size W1 w')) := Lib.hid (HPl.out 1 (by decide) (by rw [← HK1.out]; omega))
      have Hfull : Hid (fullN X.l = some 1) := Lib.hid (by unfold fullN; rw [← HK0.out, ← HK1.out, ← HK2.out, show capP 0 = 2 from rfl, show capP 1 = 4 from rfl, show capP 2 = 8 from rfl]; rw [if_neg (by omega), if_pos (by omega)])
      go_wp2_with fail
      refine HP.out.mono ?_
      rintro e w2 q
      obtain ⟨cs, rfl, hpl, hb2⟩ := q.out
      obtain ⟨p, hp⟩ : ∃ p, p = planP X.l 1 := ⟨_, rfl⟩
      rw [← hp] at hpl
      have Hp := Lib.hid hp
      have Hpl := Lib.hid hpl
      obtain ⟨ua, un, uc, la, ln, lc, e, -, -⟩ := hpl
      subst e
      have HR2 := Lib.hid (blk_bels hb2 HR.out)
      have HF := Lib.hid (put_plan2 (rb := w.heap.size) HR2.out Hpl.out (HAl.out.trans (hb2.mono HAl.out.size)) (Nat.le_refl _) (blk_lt HR.out) HAl.out.size)
      have t0 := (cell_of_blk HR2.out 0).trans (show _ = some (.int .i64 0) from rfl)
      have t1 := (cell_of_blk HR2.out 1).trans (show _ = some (.int .i64 0) from rfl)
      have t2 := (cell_of_blk HR2.out 2).trans (show _ = some (.slice none 0 0) from rfl)
      have t3 := (cell_of_blk HR2.out 3).trans (show _ = some (.slice none 0 0) from rfl)
      have t4 := (cell_of_blk HR2.out 4).trans (show _ = some (.string ⟨#[]⟩) from rfl)
      have tz := fun j => frozen_of_blk HR2.out j
      clear q hp hb2
      go_wp2_with fail
      refine bodyPost_ret (results_row_slot Tryd.results12 _ _ w.heap.size 38 _ (0, 0) _ _ rfl rfl HF.out.1 Tryd.underlying38 rfl planInfo2) rfl ?_
      exact Lib.hid ⟨_, _, rfl, by rw [Hfull.out]; exact ⟨rfl, by rw [← Hp.out]; exact HF.out.2.1⟩, HF.out.2.2⟩
    · skip
      have d1a : decide ((K1 : Int) > 4) = false := decide_eq_false (by omega)
      have d1b : decide ((4 : Int) < (K1 : Int)) = false := decide_eq_false (by omega)
      have d1c : decide (4 < K1) = false := decide_eq_false (by omega)
      by_cases hb2 : 8 < K2
      · skip
        have d2a : decide ((K2 : Int) > 8) = true := decide_eq_true (by omega)
        have d2b : decide ((8 : Int) < (K2 : Int)) = true := decide_eq_true (by omega)
        have d2c : decide (8 < K2) = true := decide_eq_true (by omega)
        have HP : Hid (Calls Tryd.prog 25 #[.pointer (some ⟨xb, 0, none⟩), .int .i64 2] W1 fun e w' => Hid (∃ cs, e = .returned (.agg cs) ∧ PlanIs w' W1.heap.size cs (planP X.l 2) ∧ Below W1.heap.size W1 w')) := Lib.hid (HPl.out 2 (by decide) (by rw [← HK2.out]; omega))
        have Hfull : Hid (fullN X.l = some 2) := Lib.hid (by unfold fullN; rw [← HK0.out, ← HK1.out, ← HK2.out, show capP 0 = 2 from rfl, show capP 1 = 4 from rfl, show capP 2 = 8 from rfl]; rw [if_neg (by omega), if_neg (by omega), if_pos (by omega)])
        go_wp2_with fail
        refine HP.out.mono ?_
        rintro e w2 q
        obtain ⟨cs, rfl, hpl, hb2⟩ := q.out
        obtain ⟨p, hp⟩ : ∃ p, p = planP X.l 2 := ⟨_, rfl⟩
        rw [← hp] at hpl
        have Hp := Lib.hid hp
        have Hpl := Lib.hid hpl
        obtain ⟨ua, un, uc, la, ln, lc, e, -, -⟩ := hpl
        subst e
        have HR2 := Lib.hid (blk_bels hb2 HR.out)
        have HF := Lib.hid (put_plan2 (rb := w.heap.size) HR2.out Hpl.out (HAl.out.trans (hb2.mono HAl.out.size)) (Nat.le_refl _) (blk_lt HR.out) HAl.out.size)
        have t0 := (cell_of_blk HR2.out 0).trans (show _ = some (.int .i64 0) from rfl)
        have t1 := (cell_of_blk HR2.out 1).trans (show _ = some (.int .i64 0) from rfl)
        have t2 := (cell_of_blk HR2.out 2).trans (show _ = some (.slice none 0 0) from rfl)
        have t3 := (cell_of_blk HR2.out 3).trans (show _ = some (.slice none 0 0) from rfl)
        have t4 := (cell_of_blk HR2.out 4).trans (show _ = some (.string ⟨#[]⟩) from rfl)
        have tz := fun j => frozen_of_blk HR2.out j
        clear q hp hb2
        go_wp2_with fail
        refine bodyPost_ret (results_row_slot Tryd.results12 _ _ w.heap.size 38 _ (0, 0) _ _ rfl rfl HF.out.1 Tryd.underlying38 rfl planInfo2) rfl ?_
        exact Lib.hid ⟨_, _, rfl, by rw [Hfull.out]; exact ⟨rfl, by rw [← Hp.out]; exact HF.out.2.1⟩, HF.out.2.2⟩
      · skip
        have d2a : decide ((K2 : Int) > 8) = false := decide_eq_false (by omega)
        have d2b : decide ((8 : Int) < (K2 : Int)) = false := decide_eq_false (by omega)
        have d2c : decide (8 < K2) = false := decide_eq_false (by omega)
        have Hfull : Hid (fullN X.l = none) := Lib.hid (by unfold fullN; rw [← HK0.out, ← HK1.out, ← HK2.out, show capP 0 = 2 from rfl, show capP 1 = 4 from rfl, show capP 2 = 8 from rfl]; rw [if_neg (by omega), if_neg (by omega), if_neg (by omega)])
        have HF := Lib.hid (put_zero2 (rb := w.heap.size) HR.out HAl.out (Nat.le_refl _))
        have t0 := (cell_of_blk HR.out 0).trans (show _ = some (.int .i64 0) from rfl)
        have t1 := (cell_of_blk HR.out 1).trans (show _ = some (.int .i64 0) from rfl)
        have t2 := (cell_of_blk HR.out 2).trans (show _ = some (.slice none 0 0) from rfl)
        have t3 := (cell_of_blk HR.out 3).trans (show _ = some (.slice none 0 0) from rfl)
        have t4 := (cell_of_blk HR.out 4).trans (show _ = some (.string ⟨#[]⟩) from rfl)
        have tz := fun j => frozen_of_blk HR.out j
        go_wp2_with fail
        refine bodyPost_ret (results_row_slot Tryd.results12 _ _ w.heap.size 38 _ (0, 0) _ _ rfl rfl HF.out.1 Tryd.underlying38 rfl planInfo2) rfl ?_
        exact Lib.hid ⟨_, _, rfl, by rw [Hfull.out]; exact ⟨rfl, planIs_zero _ _⟩, HF.out.2⟩
attribute [local go_sem] Oper.semAt_some
set_option maxHeartbeats 3200000 in
theorem rpress_any (X : Vn) (xb : Nat) (w : World) (hxb : w.heap[xb]? = some (.cells X.cells 68 (0, 0))) (hX : IsVn w X) (hl : ∀ n, n < 4 → (X.l n).length ≤ 100000) (hgd : ∀ n, n < 4 → ∀ r ∈ X.l n, gdM r.1) :
    Calls Tryd.prog 14 #[.pointer (some ⟨xb, 0, none⟩)] w fun e w' => Hid (NextOut w X.l (pressN X.l) e w') := by
  have HAl : Hid (Below w.heap.size w (w.alloc (.cells #[.int .i64 0, .int .i64 0, .slice none 0 0, .slice none 0 0, .string ⟨#[]⟩] 38))) := Lib.hid ((Below.refl _ _).alloc (Nat.le_refl _) _)
  have HR : Hid ((w.alloc (.cells #[.int .i64 0, .int .i64 0, .slice none 0 0, .slice none 0 0, .string ⟨#[]⟩] 38)).heap[w.heap.size]? = some (.cells #[.int .i64 0, .int .i64 0, .slice none 0 0, .slice none 0 0, .string ⟨#[]⟩] 38 (0, 0))) := Lib.hid (blk_of_alloc _ _)
  have HX1 := Lib.hid (hX.below HAl.out)
  have Hxb := Lib.hid (blk_bels HAl.out hxb)
  have Hl := Lib.hid hl
  have HPA := Lib.hid (fun (A : World) (hA : Below w.heap.size w A) (n : Nat) (hn : n < 3) (hlen : 0 < (X.l n).length) => rof_any X xb n A (blk_bels hA hxb) (hX.below hA) hn hlen hl hgd)
  have HPl := Lib.hid (HPA.out _ HAl.out)
  clear hX hl hgd hxb
  go_enter Tryd.func14, Tryd.ntmps14
  go_upto_region 1 with fail
  generalize w.alloc (.cells #[.int .i64 0, .int .i64 0, .slice none 0 0, .slice none 0 0, .string ⟨#[]⟩] 38) = W1 at *
  obtain ⟨a0, c0, hsv0⟩ := isMr_slice (HX1.out 0 (by decide))
  obtain ⟨K0, hK0⟩ : ∃ K, K = (X.l 0).length := ⟨_, rfl⟩
  have HK0 := Lib.hid hK0
  have hk0 : K0 ≤ 100000 := by rw [hK0]; exact Hl.out 0 (by decide)
  have hc0 : W1.cell? ⟨xb, 0, none⟩ = some (.slice a0 K0 c0) := (cell_of_blk Hxb.out 0).trans (by rw [vn_cell X (by decide), hsv0, ← hK0])
  clear hsv0 hK0
  obtain ⟨a1, c1, hsv1⟩ := isMr_slice (HX1.out 1 (by decide))
  obtain ⟨K1, hK1⟩ : ∃ K, K = (X.l 1).length := ⟨_, rfl⟩
  have HK1 := Lib.hid hK1
  have hk1 : K1 ≤ 100000 := by rw [hK1]; exact Hl.out 1 (by decide)
  have hc1 : W1.cell? ⟨xb, 1, none⟩ = some (.slice a1 K1 c1) := (cell_of_blk Hxb.out 1).trans (by rw [vn_cell X (by decide), hsv1, ← hK1])
  clear hsv1 hK1
  obtain ⟨a2, c2, hsv2⟩ := isMr_slice (HX1.out 2 (by decide))
  obtain ⟨K2, hK2⟩ : ∃ K, K = (X.l 2).length := ⟨_, rfl⟩
  have HK2 := Lib.hid hK2
  have hk2 : K2 ≤ 100000 := by rw [hK2]; exact Hl.out 2 (by decide)
  have hc2 : W1.cell? ⟨xb, 2, none⟩ = some (.slice a2 K2 c2) := (cell_of_blk Hxb.out 2).trans (by rw [vn_cell X (by decide), hsv2, ← hK2])
  clear hsv2 hK2
  obtain ⟨a3, c3, hsv3⟩ := isMr_slice (HX1.out 3 (by decide))
  obtain ⟨K3, hK3⟩ : ∃ K, K = (X.l 3).length := ⟨_, rfl⟩
  have HK3 := Lib.hid hK3
  have hk3 : K3 ≤ 100000 := by rw [hK3]; exact Hl.out 3 (by decide)
  have hc3 : W1.cell? ⟨xb, 3, none⟩ = some (.slice a3 K3 c3) := (cell_of_blk Hxb.out 3).trans (by rw [vn_cell X (by decide), hsv3, ← hK3])
  clear hsv3 hK3
  by_cases hb0 : 0 < K0
  · skip
    have d0a : decide ((K0 : Int) > 0) = true := decide_eq_true (by omega)
    have d0b : decide ((0 : Int) < (K0 : Int)) = true := decide_eq_true (by omega)
    have d0c : decide (0 < K0) = true := decide_eq_true (by omega)
    have HP : Hid (Calls Tryd.prog 25 #[.pointer (some ⟨xb, 0, none⟩), .int .i64 0] W1 fun e w' => Hid (∃ cs, e = .returned (.agg cs) ∧ PlanIs w' W1.heap.size cs (planP X.l 0) ∧ Below W1.heap.size W1 w')) := Lib.hid (HPl.out 0 (by decide) (by rw [← HK0.out]; omega))
    have Hfull : Hid (pressN X.l = some 0) := Lib.hid (by unfold pressN; rw [← HK0.out, ← HK1.out, ← HK2.out]; rw [if_pos (by omega)]; unfold pressAt; rw [if_pos (by rfl)])
    go_wp2_with fail
    refine HP.out.mono ?_
    rintro e w2 q
    obtain ⟨cs, rfl, hpl, hb2⟩ := q.out
    obtain ⟨p, hp⟩ : ∃ p, p = planP X.l 0 := ⟨_, rfl⟩
    rw [← hp] at hpl
    have Hp := Lib.hid hp
    have Hpl := Lib.hid hpl
    obtain ⟨ua, un, uc, la, ln, lc, e, -, -⟩ := hpl
    subst e
    have HR2 := Lib.hid (blk_bels hb2 HR.out)
    have HF := Lib.hid (put_plan2 (rb := w.heap.size) HR2.out Hpl.out (HAl.out.trans (hb2.mono HAl.out.size)) (Nat.le_refl _) (blk_lt HR.out) HAl.out.size)
    have t0 := (cell_of_blk HR2.out 0).trans (show _ = some (.int .i64 0) from rfl)
    have t1 := (cell_of_blk HR2.out 1).trans (show _ = some (.int .i64 0) from rfl)
    have t2 := (cell_of_blk HR2.out 2).trans (show _ = some (.slice none 0 0) from rfl)
    have t3 := (cell_of_blk HR2.out 3).trans (show _ = some (.slice none 0 0) from rfl)
    have t4 := (cell_of_blk HR2.out 4).trans (show _ = some (.string ⟨#[]⟩) from rfl)
    have tz := fun j => frozen_of_blk HR2.out j
    clear q hp hb2
    go_wp2_with fail
    refine bodyPost_ret (results_row_slot Tryd.results14 _ _ w.heap.size 38 _ (0, 0) _ _ rfl rfl HF.out.1 Tryd.underlying38 rfl planInfo2) rfl ?_
    exact Lib.hid ⟨_, _, rfl, by rw [Hfull.out]; exact ⟨rfl, by rw [← Hp.out]; exact HF.out.2.1⟩, HF.out.2.2⟩
  · skip
    have d0a : decide ((K0 : Int) > 0) = false := decide_eq_false (by omega)
    have d0b : decide ((0 : Int) < (K0 : Int)) = false := decide_eq_false (by omega)
    have d0c : decide (0 < K0) = false := decide_eq_false (by omega)
    by_cases hb1 : 0 < K1
    · skip
      have d1a : decide ((K1 : Int) > 0) = true := decide_eq_true (by omega)
      have d1b : decide ((0 : Int) < (K1 : Int)) = true := decide_eq_true (by omega)
      have d1c : decide (0 < K1) = true := decide_eq_true (by omega)
      have hw23 : IntKind.i64.wrap ((K2 : Int) + (K3 : Int)) = (K2 : Int) + (K3 : Int) := IntWalk.i64_in _ (by omega)
      by_cases hb23 : 0 < K2 + K3
      · skip
        have e23a : decide ((K2 : Int) + (K3 : Int) > 0) = true := decide_eq_true (by omega)
        have e23b : decide ((0 : Int) < (K2 : Int) + (K3 : Int)) = true := decide_eq_true (by omega)
        have HRd := Lib.hid (drew_blk HR.out)
        have HAld := Lib.hid HAl.out.drew
        have HPd := Lib.hid (HPA.out _ HAl.out.drew)
        clear HPl HR HAl HX1 Hxb HPA
        go_upto_region 4 with fail
        refine wp_region_held_drew (S := fun V' => Hid (Below W1.heap.size W1 V')) (by kernel_rfl) (Lib.hid ((Below.refl _ _).drew)) (fun hS0 => ?_)
        refine wpAnyH_take (i := 0) (oi := { dst := some 20, op := Op.move (Operand.tmp 0), type := 27, pos := "ref.go:52", after := #[], guard := none }) (v := ?_) rfl (by kernel_rfl) (by kernel_rfl) (by kernel_rfl) (fun _ _ _ h => h) (Or.inl ⟨by rfl, ?hy1⟩) hS0 ?_
        case hy1 => (intro V hSw; (try dsimp only at hSw); clear hSw; go_simp; try with_reducible rfl)
        try simp only [Act.put, List.setIfInBounds_toArray, List.set_cons_zero, List.set_cons_succ]
        refine wpAnyH_take (i := 1) (oi := { dst := some 21, op := Op.nilCheck (Operand.tmp 20), type := 0, pos := "ref.go:52", after := #[{ on := 0, ground := Ground.data }], guard := none }) (v := ?_) rfl (by kernel_rfl) (by kernel_rfl) (by kernel_rfl) (fun _ _ _ h => h) (Or.inl ⟨by rfl, ?hy2⟩) hS0 ?_
        case hy2 => (intro V hSw; (try dsimp only at hSw); clear hSw; go_simp; try with_reducible rfl)
        try simp only [Act.put, List.setIfInBounds_toArray, List.set_cons_zero, List.set_cons_succ]
        refine wpAnyH_take (i := 2) (oi := { dst := some 22, op := Op.fieldAddr 68 (Operand.tmp 21) 0, type := 0, pos := "ref.go:52", after := #[{ on := 1, ground := Ground.data }], guard := none }) (v := ?_) rfl (by kernel_rfl) (by kernel_rfl) (by kernel_rfl) (fun _ _ _ h => h) (Or.inl ⟨by rfl, ?hy3⟩) hS0 ?_
        case hy3 => (intro V hSw; (try dsimp only at hSw); clear hSw; go_simp; try with_reducible rfl)
        try simp only [Act.put, List.setIfInBounds_toArray, List.set_cons_zero, List.set_cons_succ]
        refine wpAnyH_take (i := 3) (oi := { dst := some 23, op := Op.indexAddr 66 (Operand.tmp 22) (Operand.const (Value.int IntKind.i64 2)), type := 0, pos := "ref.go:52", after := #[{ on := 2, ground := Ground.data }], guard := none }) (v := ?_) rfl (by kernel_rfl) (by kernel_rfl) (by kernel_rfl) (fun _ _ _ h => h) (Or.inl ⟨by rfl, ?hy4⟩) hS0 ?_
        case hy4 => (intro V hSw; (try dsimp only at hSw); clear hSw; go_simp; try with_reducible rfl)
        try simp only [Act.put, List.setIfInBounds_toArray, List.set_cons_zero, List.set_cons_succ]
        refine wpAnyH_take (i := 4) (oi := { dst := some 24, op := Op.load 65 (Operand.tmp 23), type := 65, pos := "ref.go:52", after := #[{ on := 3, ground := Ground.data }], guard := none }) (v := ?_) rfl (by kernel_rfl) (by kernel_rfl) (by kernel_rfl) (fun _ _ _ h => h) (Or.inl ⟨by rfl, ?hy5⟩) hS0 ?_
        case hy5 => (intro V hSw; (try dsimp only at hSw); have q0 := grow_cell hSw.out (block_lt_of_cell hc2) hc2; have q1 := grow_cell hSw.out (block_lt_of_cell hc3) hc3; clear hSw; go_simp; try with_reducible rfl)
        try simp only [Act.put, List.setIfInBounds_toArray, List.set_cons_zero, List.set_cons_succ]
        refine wpAnyH_take (i := 6) (oi := { dst := some 26, op := Op.move (Operand.tmp 0), type := 27, pos := "ref.go:52", after := #[], guard := none }) (v := ?_) rfl (by kernel_rfl) (by kernel_rfl) (by kernel_rfl) (fun _ _ _ h => h) (Or.inl ⟨by rfl, ?hy6⟩) hS0 ?_
        case hy6 => (intro V hSw; (try dsimp only at hSw); clear hSw; go_simp; try with_reducible rfl)
        try simp only [Act.put, List.setIfInBounds_toArray, List.set_cons_zero, List.set_cons_succ]
        refine wpAnyH_take (i := 7) (oi := { dst := some 27, op := Op.nilCheck (Operand.tmp 26), type := 0, pos := "ref.go:52", after := #[{ on := 6, ground := Ground.data }], guard := none }) (v := ?_) rfl (by kernel_rfl) (by kernel_rfl) (by kernel_rfl) (fun _ _ _ h => h) (Or.inl ⟨by rfl, ?hy7⟩) hS0 ?_
        case hy7 => (intro V hSw; (try dsimp only at hSw); clear hSw; go_simp; try with_reducible rfl)
        try simp only [Act.put, List.setIfInBounds_toArray, List.set_cons_zero, List.set_cons_succ]
        refine wpAnyH_take (i := 8) (oi := { dst := some 28, op := Op.fieldAddr 68 (Operand.tmp 27) 0, type := 0, pos := "ref.go:52", after := #[{ on := 7, ground := Ground.data }], guard := none }) (v := ?_) rfl (by kernel_rfl) (by kernel_rfl) (by kernel_rfl) (fun _ _ _ h => h) (Or.inl ⟨by rfl, ?hy8⟩) hS0 ?_
        case hy8 => (intro V hSw; (try dsimp only at hSw); clear hSw; go_simp; try with_reducible rfl)
        try simp only [Act.put, List.setIfInBounds_toArray, List.set_cons_zero, List.set_cons_succ]
        refine wpAnyH_take (i := 9) (oi := { dst := some 29, op := Op.indexAddr 66 (Operand.tmp 28) (Operand.const (Value.int IntKind.i64 3)), type := 0, pos := "ref.go:52", after := #[{ on := 8, ground := Ground.data }], guard := none }) (v := ?_) rfl (by kernel_rfl) (by kernel_rfl) (by kernel_rfl) (fun _ _ _ h => h) (Or.inl ⟨by rfl, ?hy9⟩) hS0 ?_
        case hy9 => (intro V hSw; (try dsimp only at hSw); clear hSw; go_simp; try with_reducible rfl)
        try simp only [Act.put, List.setIfInBounds_toArray, List.set_cons_zero, List.set_cons_succ]
        refine wpAnyH_take (i := 10) (oi := { dst := some 30, op := Op.load 65 (Operand.tmp 29), type := 65, pos := "ref.go:52", after := #[{ on := 9, ground := Ground.data }], guard := none }) (v := ?_) rfl (by kernel_rfl) (by kernel_rfl) (by kernel_rfl) (fun _ _ _ h => h) (Or.inl ⟨by rfl, ?hy10⟩) hS0 ?_
        case hy10 => (intro V hSw; (try dsimp only at hSw); have q0 := grow_cell hSw.out (block_lt_of_cell hc2) hc2; have q1 := grow_cell hSw.out (block_lt_of_cell hc3) hc3; clear hSw; go_simp; try with_reducible rfl)
        try simp only [Act.put, List.setIfInBounds_toArray, List.set_cons_zero, List.set_cons_succ]
        refine wpAnyH_ready (rs := [5, 11]) (by kernel_rfl) (by simp) (AllReadyH.cons rfl (fun K hK => ?_) (AllReadyH.cons rfl (fun K hK => ?_) AllReadyH.nil))
        · go_simp
          refine hK.out _ _ hS0 (fun _ => ?_)
          clear hK K
          try simp only [Act.put, List.setIfInBounds_toArray, List.set_cons_zero, List.set_cons_succ]
          refine wpAnyH_ready (rs := [11]) (by kernel_rfl) (by simp) (AllReadyH.cons rfl (fun K hK => ?_) AllReadyH.nil)
          go_simp
          refine hK.out _ _ hS0 (fun _ => ?_)
          clear hK K
          try simp only [Act.put, List.setIfInBounds_toArray, List.set_cons_zero, List.set_cons_succ]
          refine wpAnyH_take (i := 12) (oi := { dst := some 32, op := Op.binOp BinOp.add 3 (Operand.tmp 25) (Operand.tmp 31) 3, type := 3, pos := "ref.go:52", after := #[{ on := 5, ground := Ground.data }, { on := 11, ground := Ground.data }], guard := none }) (v := ?_) rfl (by kernel_rfl) (by kernel_rfl) (by kernel_rfl) (fun _ _ _ h => h) (Or.inl ⟨by rfl, ?hy11⟩) hS0 ?_
          case hy11 => (intro V hSw; (try dsimp only at hSw); clear hSw; go_simp; try with_reducible rfl)
          try simp only [Act.put, List.setIfInBounds_toArray, List.set_cons_zero, List.set_cons_succ]
          refine wpAnyH_take (i := 13) (oi := { dst := some 33, op := Op.binOp BinOp.gtr 3 (Operand.tmp 32) (Operand.const (Value.int IntKind.i64 0)) 3, type := 4, pos := "ref.go:52", after := #[{ on := 12, ground := Ground.data }], guard := none }) (v := ?_) rfl (by kernel_rfl) (by kernel_rfl) (by kernel_rfl) (fun _ _ _ h => h) (Or.inl ⟨by rfl, ?hy12⟩) hS0 ?_
          case hy12 => (intro V hSw; (try dsimp only at hSw); clear hSw; go_simp; try with_reducible rfl)
          try simp only [Act.put, List.setIfInBounds_toArray, List.set_cons_zero, List.set_cons_succ]
          refine wpAnyH_done (by kernel_rfl) ?_ _
          generalize W1.drew = V0 at *
          clear hc0 hc1 hc2 hc3 hS0
          have HP : Hid (Calls Tryd.prog 25 #[.pointer (some ⟨xb, 0, none⟩), .int .i64 1] V0 fun e w' => Hid (∃ cs, e = .returned (.agg cs) ∧ PlanIs w' V0.heap.size cs (planP X.l 1) ∧ Below V0.heap.size V0 w')) := Lib.hid (HPd.out 1 (by decide) (by rw [← HK1.out]; omega))
          have Hfull : Hid (pressN X.l = some 1) := Lib.hid (by unfold pressN; rw [← HK0.out, ← HK1.out, ← HK2.out]; rw [if_neg (by omega), if_pos (by omega)]; unfold pressAt; rw [if_pos (by show ((decide ((1 : Nat) = 0) || decide (0 < (X.l 2).length)) || decide (0 < (X.l 3).length)) = true; rw [← HK2.out, ← HK3.out]; simp; omega)])
          go_wp2_with fail
          refine HP.out.mono ?_
          rintro e w2 q
          obtain ⟨cs, rfl, hpl, hb2⟩ := q.out
          obtain ⟨p, hp⟩ : ∃ p, p = planP X.l 1 := ⟨_, rfl⟩
          rw [← hp] at hpl
          have Hp := Lib.hid hp
          have Hpl := Lib.hid hpl
          obtain ⟨ua, un, uc, la, ln, lc, e, -, -⟩ := hpl
          subst e
          have HR2 := Lib.hid (blk_bels hb2 HRd.out)
          have HF := Lib.hid (put_plan2 (rb := w.heap.size) HR2.out Hpl.out (HAld.out.trans (hb2.mono HAld.out.size)) (Nat.le_refl _) (blk_lt HRd.out) HAld.out.size)
          have t0 := (cell_of_blk HR2.out 0).trans (show _ = some (.int .i64 0) from rfl)
          have t1 := (cell_of_blk HR2.out 1).trans (show _ = some (.int .i64 0) from rfl)
          have t2 := (cell_of_blk HR2.out 2).trans (show _ = some (.slice none 0 0) from rfl)
          have t3 := (cell_of_blk HR2.out 3).trans (show _ = some (.slice none 0 0) from rfl)
          have t4 := (cell_of_blk HR2.out 4).trans (show _ = some (.string ⟨#[]⟩) from rfl)
          have tz := fun j => frozen_of_blk HR2.out j
          clear q hp hb2
          go_wp2_with fail
          refine bodyPost_ret (results_row_slot Tryd.results14 _ _ w.heap.size 38 _ (0, 0) _ _ rfl rfl HF.out.1 Tryd.underlying38 rfl planInfo2) rfl ?_
          exact Lib.hid ⟨_, _, rfl, by rw [Hfull.out]; exact ⟨rfl, by rw [← Hp.out]; exact HF.out.2.1⟩, HF.out.2.2⟩
        · go_simp
          refine hK.out _ _ hS0 (fun _ => ?_)
          clear hK K
          try simp only [Act.put, List.setIfInBounds_toArray, List.set_cons_zero, List.set_cons_succ]
          refine wpAnyH_ready (rs := [5]) (by kernel_rfl) (by simp) (AllReadyH.cons rfl (fun K hK => ?_) AllReadyH.nil)
          go_simp
          refine hK.out _ _ hS0 (fun _ => ?_)
          clear hK K
          try simp only [Act.put, List.setIfInBounds_toArray, List.set_cons_zero, List.set_cons_succ]
          refine wpAnyH_take (i := 12) (oi := { dst := some 32, op := Op.binOp BinOp.add 3 (Operand.tmp 25) (Operand.tmp 31) 3, type := 3, pos := "ref.go:52", after := #[{ on := 5, ground := Ground.data }, { on := 11, ground := Ground.data }], guard := none }) (v := ?_) rfl (by kernel_rfl) (by kernel_rfl) (by kernel_rfl) (fun _ _ _ h => h) (Or.inl ⟨by rfl, ?hy13⟩) hS0 ?_
          case hy13 => (intro V hSw; (try dsimp only at hSw); clear hSw; go_simp; try with_reducible rfl)
          try simp only [Act.put, List.setIfInBounds_toArray, List.set_cons_zero, List.set_cons_succ]
          refine wpAnyH_take (i := 13) (oi := { dst := some 33, op := Op.binOp BinOp.gtr 3 (Operand.tmp 32) (Operand.const (Value.int IntKind.i64 0)) 3, type := 4, pos := "ref.go:52", after := #[{ on := 12, ground := Ground.data }], guard := none }) (v := ?_) rfl (by kernel_rfl) (by kernel_rfl) (by kernel_rfl) (fun _ _ _ h => h) (Or.inl ⟨by rfl, ?hy14⟩) hS0 ?_
          case hy14 => (intro V hSw; (try dsimp only at hSw); clear hSw; go_simp; try with_reducible rfl)
          try simp only [Act.put, List.setIfInBounds_toArray, List.set_cons_zero, List.set_cons_succ]
          refine wpAnyH_done (by kernel_rfl) ?_ _
          generalize W1.drew = V0 at *
          clear hc0 hc1 hc2 hc3 hS0
          have HP : Hid (Calls Tryd.prog 25 #[.pointer (some ⟨xb, 0, none⟩), .int .i64 1] V0 fun e w' => Hid (∃ cs, e = .returned (.agg cs) ∧ PlanIs w' V0.heap.size cs (planP X.l 1) ∧ Below V0.heap.size V0 w')) := Lib.hid (HPd.out 1 (by decide) (by rw [← HK1.out]; omega))
          have Hfull : Hid (pressN X.l = some 1) := Lib.hid (by unfold pressN; rw [← HK0.out, ← HK1.out, ← HK2.out]; rw [if_neg (by omega), if_pos (by omega)]; unfold pressAt; rw [if_pos (by show ((decide ((1 : Nat) = 0) || decide (0 < (X.l 2).length)) || decide (0 < (X.l 3).length)) = true; rw [← HK2.out, ← HK3.out]; simp; omega)])
          go_wp2_with fail
          refine HP.out.mono ?_
          rintro e w2 q
          obtain ⟨cs, rfl, hpl, hb2⟩ := q.out
          obtain ⟨p, hp⟩ : ∃ p, p = planP X.l 1 := ⟨_, rfl⟩
          rw [← hp] at hpl
          have Hp := Lib.hid hp
          have Hpl := Lib.hid hpl
          obtain ⟨ua, un, uc, la, ln, lc, e, -, -⟩ := hpl
          subst e
          have HR2 := Lib.hid (blk_bels hb2 HRd.out)
          have HF := Lib.hid (put_plan2 (rb := w.heap.size) HR2.out Hpl.out (HAld.out.trans (hb2.mono HAld.out.size)) (Nat.le_refl _) (blk_lt HRd.out) HAld.out.size)
          have t0 := (cell_of_blk HR2.out 0).trans (show _ = some (.int .i64 0) from rfl)
          have t1 := (cell_of_blk HR2.out 1).trans (show _ = some (.int .i64 0) from rfl)
          have t2 := (cell_of_blk HR2.out 2).trans (show _ = some (.slice none 0 0) from rfl)
          have t3 := (cell_of_blk HR2.out 3).trans (show _ = some (.slice none 0 0) from rfl)
          have t4 := (cell_of_blk HR2.out 4).trans (show _ = some (.string ⟨#[]⟩) from rfl)
          have tz := fun j => frozen_of_blk HR2.out j
          clear q hp hb2
          go_wp2_with fail
          refine bodyPost_ret (results_row_slot Tryd.results14 _ _ w.heap.size 38 _ (0, 0) _ _ rfl rfl HF.out.1 Tryd.underlying38 rfl planInfo2) rfl ?_
          exact Lib.hid ⟨_, _, rfl, by rw [Hfull.out]; exact ⟨rfl, by rw [← Hp.out]; exact HF.out.2.1⟩, HF.out.2.2⟩
      · skip
        have e23a : decide ((K2 : Int) + (K3 : Int) > 0) = false := decide_eq_false (by omega)
        have e23b : decide ((0 : Int) < (K2 : Int) + (K3 : Int)) = false := decide_eq_false (by omega)
        have HRd := Lib.hid (drew_blk HR.out)
        have HAld := Lib.hid HAl.out.drew
        have HPd := Lib.hid (HPA.out _ HAl.out.drew)
        clear HPl HR HAl HX1 Hxb HPA
        go_upto_region 4 with fail
        refine wp_region_held_drew (S := fun V' => Hid (Below W1.heap.size W1 V')) (by kernel_rfl) (Lib.hid ((Below.refl _ _).drew)) (fun hS0 => ?_)
        refine wpAnyH_take (i := 0) (oi := { dst := some 20, op := Op.move (Operand.tmp 0), type := 27, pos := "ref.go:52", after := #[], guard := none }) (v := ?_) rfl (by kernel_rfl) (by kernel_rfl) (by kernel_rfl) (fun _ _ _ h => h) (Or.inl ⟨by rfl, ?hy15⟩) hS0 ?_
        case hy15 => (intro V hSw; (try dsimp only at hSw); clear hSw; go_simp; try with_reducible rfl)
        try simp only [Act.put, List.setIfInBounds_toArray, List.set_cons_zero, List.set_cons_succ]
        refine wpAnyH_take (i := 1) (oi := { dst := some 21, op := Op.nilCheck (Operand.tmp 20), type := 0, pos := "ref.go:52", after := #[{ on := 0, ground := Ground.data }], guard := none }) (v := ?_) rfl (by kernel_rfl) (by kernel_rfl) (by kernel_rfl) (fun _ _ _ h => h) (Or.inl ⟨by rfl, ?hy16⟩) hS0 ?_
        case hy16 => (intro V hSw; (try dsimp only at hSw); clear hSw; go_simp; try with_reducible rfl)
        try simp only [Act.put, List.setIfInBounds_toArray, List.set_cons_zero, List.set_cons_succ]
        refine wpAnyH_take (i := 2) (oi := { dst := some 22, op := Op.fieldAddr 68 (Operand.tmp 21) 0, type := 0, pos := "ref.go:52", after := #[{ on := 1, ground := Ground.data }], guard := none }) (v := ?_) rfl (by kernel_rfl) (by kernel_rfl) (by kernel_rfl) (fun _ _ _ h => h) (Or.inl ⟨by rfl, ?hy17⟩) hS0 ?_
        case hy17 => (intro V hSw; (try dsimp only at hSw); clear hSw; go_simp; try with_reducible rfl)
        try simp only [Act.put, List.setIfInBounds_toArray, List.set_cons_zero, List.set_cons_succ]
        refine wpAnyH_take (i := 3) (oi := { dst := some 23, op := Op.indexAddr 66 (Operand.tmp 22) (Operand.const (Value.int IntKind.i64 2)), type := 0, pos := "ref.go:52", after := #[{ on := 2, ground := Ground.data }], guard := none }) (v := ?_) rfl (by kernel_rfl) (by kernel_rfl) (by kernel_rfl) (fun _ _ _ h => h) (Or.inl ⟨by rfl, ?hy18⟩) hS0 ?_
        case hy18 => (intro V hSw; (try dsimp only at hSw); clear hSw; go_simp; try with_reducible rfl)
        try simp only [Act.put, List.setIfInBounds_toArray, List.set_cons_zero, List.set_cons_succ]
        refine wpAnyH_take (i := 4) (oi := { dst := some 24, op := Op.load 65 (Operand.tmp 23), type := 65, pos := "ref.go:52", after := #[{ on := 3, ground := Ground.data }], guard := none }) (v := ?_) rfl (by kernel_rfl) (by kernel_rfl) (by kernel_rfl) (fun _ _ _ h => h) (Or.inl ⟨by rfl, ?hy19⟩) hS0 ?_
        case hy19 => (intro V hSw; (try dsimp only at hSw); have q0 := grow_cell hSw.out (block_lt_of_cell hc2) hc2; have q1 := grow_cell hSw.out (block_lt_of_cell hc3) hc3; clear hSw; go_simp; try with_reducible rfl)
        try simp only [Act.put, List.setIfInBounds_toArray, List.set_cons_zero, List.set_cons_succ]
        refine wpAnyH_take (i := 6) (oi := { dst := some 26, op := Op.move (Operand.tmp 0), type := 27, pos := "ref.go:52", after := #[], guard := none }) (v := ?_) rfl (by kernel_rfl) (by kernel_rfl) (by kernel_rfl) (fun _ _ _ h => h) (Or.inl ⟨by rfl, ?hy20⟩) hS0 ?_
        case hy20 => (intro V hSw; (try dsimp only at hSw); clear hSw; go_simp; try with_reducible rfl)
        try simp only [Act.put, List.setIfInBounds_toArray, List.set_cons_zero, List.set_cons_succ]
        refine wpAnyH_take (i := 7) (oi := { dst := some 27, op := Op.nilCheck (Operand.tmp 26), type := 0, pos := "ref.go:52", after := #[{ on := 6, ground := Ground.data }], guard := none }) (v := ?_) rfl (by kernel_rfl) (by kernel_rfl) (by kernel_rfl) (fun _ _ _ h => h) (Or.inl ⟨by rfl, ?hy21⟩) hS0 ?_
        case hy21 => (intro V hSw; (try dsimp only at hSw); clear hSw; go_simp; try with_reducible rfl)
        try simp only [Act.put, List.setIfInBounds_toArray, List.set_cons_zero, List.set_cons_succ]
        refine wpAnyH_take (i := 8) (oi := { dst := some 28, op := Op.fieldAddr 68 (Operand.tmp 27) 0, type := 0, pos := "ref.go:52", after := #[{ on := 7, ground := Ground.data }], guard := none }) (v := ?_) rfl (by kernel_rfl) (by kernel_rfl) (by kernel_rfl) (fun _ _ _ h => h) (Or.inl ⟨by rfl, ?hy22⟩) hS0 ?_
        case hy22 => (intro V hSw; (try dsimp only at hSw); clear hSw; go_simp; try with_reducible rfl)
        try simp only [Act.put, List.setIfInBounds_toArray, List.set_cons_zero, List.set_cons_succ]
        refine wpAnyH_take (i := 9) (oi := { dst := some 29, op := Op.indexAddr 66 (Operand.tmp 28) (Operand.const (Value.int IntKind.i64 3)), type := 0, pos := "ref.go:52", after := #[{ on := 8, ground := Ground.data }], guard := none }) (v := ?_) rfl (by kernel_rfl) (by kernel_rfl) (by kernel_rfl) (fun _ _ _ h => h) (Or.inl ⟨by rfl, ?hy23⟩) hS0 ?_
        case hy23 => (intro V hSw; (try dsimp only at hSw); clear hSw; go_simp; try with_reducible rfl)
        try simp only [Act.put, List.setIfInBounds_toArray, List.set_cons_zero, List.set_cons_succ]
        refine wpAnyH_take (i := 10) (oi := { dst := some 30, op := Op.load 65 (Operand.tmp 29), type := 65, pos := "ref.go:52", after := #[{ on := 9, ground := Ground.data }], guard := none }) (v := ?_) rfl (by kernel_rfl) (by kernel_rfl) (by kernel_rfl) (fun _ _ _ h => h) (Or.inl ⟨by rfl, ?hy24⟩) hS0 ?_
        case hy24 => (intro V hSw; (try dsimp only at hSw); have q0 := grow_cell hSw.out (block_lt_of_cell hc2) hc2; have q1 := grow_cell hSw.out (block_lt_of_cell hc3) hc3; clear hSw; go_simp; try with_reducible rfl)
        try simp only [Act.put, List.setIfInBounds_toArray, List.set_cons_zero, List.set_cons_succ]
        refine wpAnyH_ready (rs := [5, 11]) (by kernel_rfl) (by simp) (AllReadyH.cons rfl (fun K hK => ?_) (AllReadyH.cons rfl (fun K hK => ?_) AllReadyH.nil))
        · go_simp
          refine hK.out _ _ hS0 (fun _ => ?_)
          clear hK K
          try simp only [Act.put, List.setIfInBounds_toArray, List.set_cons_zero, List.set_cons_succ]
          refine wpAnyH_ready (rs := [11]) (by kernel_rfl) (by simp) (AllReadyH.cons rfl (fun K hK => ?_) AllReadyH.nil)
          go_simp
          refine hK.out _ _ hS0 (fun _ => ?_)
          clear hK K
          try simp only [Act.put, List.setIfInBounds_toArray, List.set_cons_zero, List.set_cons_succ]
          refine wpAnyH_take (i := 12) (oi := { dst := some 32, op := Op.binOp BinOp.add 3 (Operand.tmp 25) (Operand.tmp 31) 3, type := 3, pos := "ref.go:52", after := #[{ on := 5, ground := Ground.data }, { on := 11, ground := Ground.data }], guard := none }) (v := ?_) rfl (by kernel_rfl) (by kernel_rfl) (by kernel_rfl) (fun _ _ _ h => h) (Or.inl ⟨by rfl, ?hy25⟩) hS0 ?_
          case hy25 => (intro V hSw; (try dsimp only at hSw); clear hSw; go_simp; try with_reducible rfl)
          try simp only [Act.put, List.setIfInBounds_toArray, List.set_cons_zero, List.set_cons_succ]
          refine wpAnyH_take (i := 13) (oi := { dst := some 33, op := Op.binOp BinOp.gtr 3 (Operand.tmp 32) (Operand.const (Value.int IntKind.i64 0)) 3, type := 4, pos := "ref.go:52", after := #[{ on := 12, ground := Ground.data }], guard := none }) (v := ?_) rfl (by kernel_rfl) (by kernel_rfl) (by kernel_rfl) (fun _ _ _ h => h) (Or.inl ⟨by rfl, ?hy26⟩) hS0 ?_
          case hy26 => (intro V hSw; (try dsimp only at hSw); clear hSw; go_simp; try with_reducible rfl)
          try simp only [Act.put, List.setIfInBounds_toArray, List.set_cons_zero, List.set_cons_succ]
          refine wpAnyH_done (by kernel_rfl) ?_ _
          generalize W1.drew = V0 at *
          clear hc0 hc1 hc2 hc3 hS0
          have Hfull : Hid (pressN X.l = none) := Lib.hid (by unfold pressN; rw [← HK0.out, ← HK1.out, ← HK2.out]; rw [if_neg (by omega), if_pos (by omega)]; unfold pressAt; rw [if_neg (by show ¬ ((decide ((1 : Nat) = 0) || decide (0 < (X.l 2).length)) || decide (0 < (X.l 3).length)) = true; rw [← HK2.out, ← HK3.out]; simp; omega)])
          have HF := Lib.hid (put_zero2 (rb := w.heap.size) HRd.out HAld.out (Nat.le_refl _))
          have t0 := (cell_of_blk HRd.out 0).trans (show _ = some (.int .i64 0) from rfl)
          have t1 := (cell_of_blk HRd.out 1).trans (show _ = some (.int .i64 0) from rfl)
          have t2 := (cell_of_blk HRd.out 2).trans (show _ = some (.slice none 0 0) from rfl)
          have t3 := (cell_of_blk HRd.out 3).trans (show _ = some (.slice none 0 0) from rfl)
          have t4 := (cell_of_blk HRd.out 4).trans (show _ = some (.string ⟨#[]⟩) from rfl)
          have tz := fun j => frozen_of_blk HRd.out j
          go_wp2_with fail
          refine bodyPost_ret (results_row_slot Tryd.results14 _ _ w.heap.size 38 _ (0, 0) _ _ rfl rfl HF.out.1 Tryd.underlying38 rfl planInfo2) rfl ?_
          exact Lib.hid ⟨_, _, rfl, by rw [Hfull.out]; exact ⟨rfl, planIs_zero _ _⟩, HF.out.2⟩
        · go_simp
          refine hK.out _ _ hS0 (fun _ => ?_)
          clear hK K
          try simp only [Act.put, List.setIfInBounds_toArray, List.set_cons_zero, List.set_cons_succ]
          refine wpAnyH_ready (rs := [5]) (by kernel_rfl) (by simp) (AllReadyH.cons rfl (fun K hK => ?_) AllReadyH.nil)
          go_simp
          refine hK.out _ _ hS0 (fun _ => ?_)
          clear hK K
          try simp only [Act.put, List.setIfInBounds_toArray, List.set_cons_zero, List.set_cons_succ]
          refine wpAnyH_take (i := 12) (oi := { dst := some 32, op := Op.binOp BinOp.add 3 (Operand.tmp 25) (Operand.tmp 31) 3, type := 3, pos := "ref.go:52", after := #[{ on := 5, ground := Ground.data }, { on := 11, ground := Ground.data }], guard := none }) (v := ?_) rfl (by kernel_rfl) (by kernel_rfl) (by kernel_rfl) (fun _ _ _ h => h) (Or.inl ⟨by rfl, ?hy27⟩) hS0 ?_
          case hy27 => (intro V hSw; (try dsimp only at hSw); clear hSw; go_simp; try with_reducible rfl)
          try simp only [Act.put, List.setIfInBounds_toArray, List.set_cons_zero, List.set_cons_succ]
          refine wpAnyH_take (i := 13) (oi := { dst := some 33, op := Op.binOp BinOp.gtr 3 (Operand.tmp 32) (Operand.const (Value.int IntKind.i64 0)) 3, type := 4, pos := "ref.go:52", after := #[{ on := 12, ground := Ground.data }], guard := none }) (v := ?_) rfl (by kernel_rfl) (by kernel_rfl) (by kernel_rfl) (fun _ _ _ h => h) (Or.inl ⟨by rfl, ?hy28⟩) hS0 ?_
          case hy28 => (intro V hSw; (try dsimp only at hSw); clear hSw; go_simp; try with_reducible rfl)
          try simp only [Act.put, List.setIfInBounds_toArray, List.set_cons_zero, List.set_cons_succ]
          refine wpAnyH_done (by kernel_rfl) ?_ _
          generalize W1.drew = V0 at *
          clear hc0 hc1 hc2 hc3 hS0
          have Hfull : Hid (pressN X.l = none) := Lib.hid (by unfold pressN; rw [← HK0.out, ← HK1.out, ← HK2.out]; rw [if_neg (by omega), if_pos (by omega)]; unfold pressAt; rw [if_neg (by show ¬ ((decide ((1 : Nat) = 0) || decide (0 < (X.l 2).length)) || decide (0 < (X.l 3).length)) = true; rw [← HK2.out, ← HK3.out]; simp; omega)])
          have HF := Lib.hid (put_zero2 (rb := w.heap.size) HRd.out HAld.out (Nat.le_refl _))
          have t0 := (cell_of_blk HRd.out 0).trans (show _ = some (.int .i64 0) from rfl)
          have t1 := (cell_of_blk HRd.out 1).trans (show _ = some (.int .i64 0) from rfl)
          have t2 := (cell_of_blk HRd.out 2).trans (show _ = some (.slice none 0 0) from rfl)
          have t3 := (cell_of_blk HRd.out 3).trans (show _ = some (.slice none 0 0) from rfl)
          have t4 := (cell_of_blk HRd.out 4).trans (show _ = some (.string ⟨#[]⟩) from rfl)
          have tz := fun j => frozen_of_blk HRd.out j
          go_wp2_with fail
          refine bodyPost_ret (results_row_slot Tryd.results14 _ _ w.heap.size 38 _ (0, 0) _ _ rfl rfl HF.out.1 Tryd.underlying38 rfl planInfo2) rfl ?_
          exact Lib.hid ⟨_, _, rfl, by rw [Hfull.out]; exact ⟨rfl, planIs_zero _ _⟩, HF.out.2⟩
    · skip
      have d1a : decide ((K1 : Int) > 0) = false := decide_eq_false (by omega)
      have d1b : decide ((0 : Int) < (K1 : Int)) = false := decide_eq_false (by omega)
      have d1c : decide (0 < K1) = false := decide_eq_false (by omega)
      by_cases hb2 : 0 < K2
      · skip
        have d2a : decide ((K2 : Int) > 0) = true := decide_eq_true (by omega)
        have d2b : decide ((0 : Int) < (K2 : Int)) = true := decide_eq_true (by omega)
        have d2c : decide (0 < K2) = true := decide_eq_true (by omega)
        by_cases hb3 : 0 < K3
        · skip
          have d3a : decide ((K3 : Int) > 0) = true := decide_eq_true (by omega)
          have d3b : decide ((0 : Int) < (K3 : Int)) = true := decide_eq_true (by omega)
          have d3c : decide (0 < K3) = true := decide_eq_true (by omega)
          have HP : Hid (Calls Tryd.prog 25 #[.pointer (some ⟨xb, 0, none⟩), .int .i64 2] W1 fun e w' => Hid (∃ cs, e = .returned (.agg cs) ∧ PlanIs w' W1.heap.size cs (planP X.l 2) ∧ Below W1.heap.size W1 w')) := Lib.hid (HPl.out 2 (by decide) (by rw [← HK2.out]; omega))
          have Hfull : Hid (pressN X.l = some 2) := Lib.hid (by unfold pressN; rw [← HK0.out, ← HK1.out, ← HK2.out]; rw [if_neg (by omega), if_neg (by omega), if_pos (by omega)]; unfold pressAt; rw [if_pos (by show (decide ((2 : Nat) = 0) || decide (0 < (X.l 3).length)) = true; rw [← HK3.out]; simp; omega)])
          go_wp2_with fail
          refine HP.out.mono ?_
          rintro e w2 q
          obtain ⟨cs, rfl, hpl, hb2⟩ := q.out
          obtain ⟨p, hp⟩ : ∃ p, p = planP X.l 2 := ⟨_, rfl⟩
          rw [← hp] at hpl
          have Hp := Lib.hid hp
          have Hpl := Lib.hid hpl
          obtain ⟨ua, un, uc, la, ln, lc, e, -, -⟩ := hpl
          subst e
          have HR2 := Lib.hid (blk_bels hb2 HR.out)
          have HF := Lib.hid (put_plan2 (rb := w.heap.size) HR2.out Hpl.out (HAl.out.trans (hb2.mono HAl.out.size)) (Nat.le_refl _) (blk_lt HR.out) HAl.out.size)
          have t0 := (cell_of_blk HR2.out 0).trans (show _ = some (.int .i64 0) from rfl)
          have t1 := (cell_of_blk HR2.out 1).trans (show _ = some (.int .i64 0) from rfl)
          have t2 := (cell_of_blk HR2.out 2).trans (show _ = some (.slice none 0 0) from rfl)
          have t3 := (cell_of_blk HR2.out 3).trans (show _ = some (.slice none 0 0) from rfl)
          have t4 := (cell_of_blk HR2.out 4).trans (show _ = some (.string ⟨#[]⟩) from rfl)
          have tz := fun j => frozen_of_blk HR2.out j
          clear q hp hb2
          go_wp2_with fail
          refine bodyPost_ret (results_row_slot Tryd.results14 _ _ w.heap.size 38 _ (0, 0) _ _ rfl rfl HF.out.1 Tryd.underlying38 rfl planInfo2) rfl ?_
          exact Lib.hid ⟨_, _, rfl, by rw [Hfull.out]; exact ⟨rfl, by rw [← Hp.out]; exact HF.out.2.1⟩, HF.out.2.2⟩
        · skip
          have d3a : decide ((K3 : Int) > 0) = false := decide_eq_false (by omega)
          have d3b : decide ((0 : Int) < (K3 : Int)) = false := decide_eq_false (by omega)
          have d3c : decide (0 < K3) = false := decide_eq_false (by omega)
          have Hfull : Hid (pressN X.l = none) := Lib.hid (by unfold pressN; rw [← HK0.out, ← HK1.out, ← HK2.out]; rw [if_neg (by omega), if_neg (by omega), if_pos (by omega)]; unfold pressAt; rw [if_neg (by show ¬ (decide ((2 : Nat) = 0) || decide (0 < (X.l 3).length)) = true; rw [← HK3.out]; simp; omega)])
          have HF := Lib.hid (put_zero2 (rb := w.heap.size) HR.out HAl.out (Nat.le_refl _))
          have t0 := (cell_of_blk HR.out 0).trans (show _ = some (.int .i64 0) from rfl)
          have t1 := (cell_of_blk HR.out 1).trans (show _ = some (.int .i64 0) from rfl)
          have t2 := (cell_of_blk HR.out 2).trans (show _ = some (.slice none 0 0) from rfl)
          have t3 := (cell_of_blk HR.out 3).trans (show _ = some (.slice none 0 0) from rfl)
          have t4 := (cell_of_blk HR.out 4).trans (show _ = some (.string ⟨#[]⟩) from rfl)
          have tz := fun j => frozen_of_blk HR.out j
          go_wp2_with fail
          refine bodyPost_ret (results_row_slot Tryd.results14 _ _ w.heap.size 38 _ (0, 0) _ _ rfl rfl HF.out.1 Tryd.underlying38 rfl planInfo2) rfl ?_
          exact Lib.hid ⟨_, _, rfl, by rw [Hfull.out]; exact ⟨rfl, planIs_zero _ _⟩, HF.out.2⟩
      · skip
        have d2a : decide ((K2 : Int) > 0) = false := decide_eq_false (by omega)
        have d2b : decide ((0 : Int) < (K2 : Int)) = false := decide_eq_false (by omega)
        have d2c : decide (0 < K2) = false := decide_eq_false (by omega)
        have Hfull : Hid (pressN X.l = none) := Lib.hid (by unfold pressN; rw [← HK0.out, ← HK1.out, ← HK2.out]; rw [if_neg (by omega), if_neg (by omega), if_neg (by omega)])
        have HF := Lib.hid (put_zero2 (rb := w.heap.size) HR.out HAl.out (Nat.le_refl _))
        have t0 := (cell_of_blk HR.out 0).trans (show _ = some (.int .i64 0) from rfl)
        have t1 := (cell_of_blk HR.out 1).trans (show _ = some (.int .i64 0) from rfl)
        have t2 := (cell_of_blk HR.out 2).trans (show _ = some (.slice none 0 0) from rfl)
        have t3 := (cell_of_blk HR.out 3).trans (show _ = some (.slice none 0 0) from rfl)
        have t4 := (cell_of_blk HR.out 4).trans (show _ = some (.string ⟨#[]⟩) from rfl)
        have tz := fun j => frozen_of_blk HR.out j
        go_wp2_with fail
        refine bodyPost_ret (results_row_slot Tryd.results14 _ _ w.heap.size 38 _ (0, 0) _ _ rfl rfl HF.out.1 Tryd.underlying38 rfl planInfo2) rfl ?_
        exact Lib.hid ⟨_, _, rfl, by rw [Hfull.out]; exact ⟨rfl, planIs_zero _ _⟩, HF.out.2⟩
end Go.Proofs.YtcmndnglmpkpdaaDoor.Tithe
