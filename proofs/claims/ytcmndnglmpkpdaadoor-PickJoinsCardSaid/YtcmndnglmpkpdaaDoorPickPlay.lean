/- Chapter 17's play: walked. -/
import Derived.Test.YtcmndnglmpkpdaaDoorPickPlayC
import Derived.Deep.RegionHeld3
namespace Go.Proofs.YtcmndnglmpkpdaaDoor.Tithe
open Go.RowKit Go.Sort Go.Shelf
set_option linter.unusedVariables false
set_option linter.unusedSimpArgs false
set_option maxRecDepth 100000
attribute [local go_sem] Oper.semAt_some
set_option maxHeartbeats 12800000 in
theorem play17_any (v : Value) (l : List Ed) (w : World) (h : IsEd w v l) :
    Calls Tryd.prog 8 #[v] w fun e w' => Hid (PkOut w l e w') := by
  obtain ⟨aa, ac, rfl, -, -, -⟩ := id h.1
  obtain ⟨-, hac, ham, hax⟩ := h.1.at
  have Hax := Lib.hid hax
  have Hin := Lib.hid h.2
  obtain ⟨m, hm⟩ : ∃ m, m = l.length := ⟨_, rfl⟩
  rw [← hm] at hac ⊢
  have Hm := Lib.hid hm
  clear h hax hm
  have hI : PjI w Vn.none (playP l 0) (((w.alloc (.cells #[.slice none 0 0, .slice none 0 0, .slice none 0 0, .slice none 0 0] 26)).alloc (.cells #[.slice none 0 0, .slice none 0 0, .slice none 0 0, .slice none 0 0] 26)).alloc (.cells #[.slice none 0 0, .slice none 0 0, .slice none 0 0, .slice none 0 0] 68)) :=
    ⟨blk_old (blk_old (blk_of_alloc _ _) _) _, blk_old (blk_new (by simp only [World.size_alloc]) _) _, blk_new (by simp only [World.size_alloc]) _, (ownVn_none _ 0).isVn, LvE.refl _, (((Below.refl _ _).alloc (Nat.le_refl _) _).alloc (by simp) _).alloc (by simp; omega) _⟩
  have HI := Lib.hid hI
  clear hI
  by_cases h40 : 40 < m
  · go_enter Tryd.func8, Tryd.ntmps8
    go_upto_region 4 with fail
    generalize ((w.alloc (.cells #[.slice none 0 0, .slice none 0 0, .slice none 0 0, .slice none 0 0] 26)).alloc (.cells #[.slice none 0 0, .slice none 0 0, .slice none 0 0, .slice none 0 0] 26)).alloc (.cells #[.slice none 0 0, .slice none 0 0, .slice none 0 0, .slice none 0 0] 68) = W0 at *
    obtain ⟨U, hU⟩ : ∃ U, U = Vn.none := ⟨_, rfl⟩
    have HI2 : Hid (PjI w U (playP l 0) W0) := Lib.hid (by rw [hU]; exact HI.out)
    clear HI hU
    obtain ⟨a0, n0, c0, a1, n1, c1, a2, n2, c2, a3, n3, c3, e0, e1, e2, e3⟩ := isVn_sl HI2.out.vu
    have E0 := Lib.hid e0
    have E1 := Lib.hid e1
    have E2 := Lib.hid e2
    have E3 := Lib.hid e3
    clear e0 e1 e2 e3
    have c0' := (cell_of_blk HI2.out.cv 0).trans (show _ = some (.slice a0 n0 c0) from (vn_cell U (by omega)).trans (by rw [E0.out]))
    have c1' := (cell_of_blk HI2.out.cv 1).trans (show _ = some (.slice a1 n1 c1) from (vn_cell U (by omega)).trans (by rw [E1.out]))
    have c2' := (cell_of_blk HI2.out.cv 2).trans (show _ = some (.slice a2 n2 c2) from (vn_cell U (by omega)).trans (by rw [E2.out]))
    have c3' := (cell_of_blk HI2.out.cv 3).trans (show _ = some (.slice a3 n3 c3) from (vn_cell U (by omega)).trans (by rw [E3.out]))
    have v0 := (cell_of_blk HI2.out.res 0).trans (show _ = some (.slice none 0 0) from rfl)
    have v1 := (cell_of_blk HI2.out.res 1).trans (show _ = some (.slice none 0 0) from rfl)
    have v2 := (cell_of_blk HI2.out.res 2).trans (show _ = some (.slice none 0 0) from rfl)
    have v3 := (cell_of_blk HI2.out.res 3).trans (show _ = some (.slice none 0 0) from rfl)
    have r0 := frozen_of_blk HI2.out.res 0
    have r1 := frozen_of_blk HI2.out.res 1
    have r2 := frozen_of_blk HI2.out.res 2
    have r3 := frozen_of_blk HI2.out.res 3
    have HRv := Lib.hid (ret_ver (U := U) HI2.out.res HI2.out.bel)
    rw [E0.out, E1.out, E2.out, E3.out] at HRv
    have hUcc : U.cells = #[.slice a0 n0 c0, .slice a1 n1 c1, .slice a2 n2 c2, .slice a3 n3 c3] := by unfold Vn.cells; rw [E0.out, E1.out, E2.out, E3.out]
    rw [hUcc] at HRv
    clear hUcc
    have HBad : Hid (smallB l = false) := Lib.hid (smallB_long (by rw [← Hm.out]; exact h40))
    go_wp2_with fail
    refine bodyPost_ret (results_row_slot3 Tryd.results8 _ _ w.heap.size 26 _ (0, 0) _ _ _ rfl rfl rfl HRv.out.1 Tryd.underlying26 rfl vnInfo) rfl ?_
    exact Lib.hid (pkOut_no HBad.out HRv.out.2)
  · go_enter Tryd.func8, Tryd.ntmps8
    go_wp2_with fail
    generalize ((w.alloc (.cells #[.slice none 0 0, .slice none 0 0, .slice none 0 0, .slice none 0 0] 26)).alloc (.cells #[.slice none 0 0, .slice none 0 0, .slice none 0 0, .slice none 0 0] 26)).alloc (.cells #[.slice none 0 0, .slice none 0 0, .slice none 0 0, .slice none 0 0] 68) = W0 at *
    go_loopw [29] (fun kv wr => ∃ k : Nat, k ≤ m ∧ kv = .int .i64 k ∧ (l.take k).all edSmall = true ∧ ∃ U : Vn, PjI w U (playP l k) wr) (fun kv _ => m - (intOf kv).toNat)
    case atStart => exact ⟨0, Nat.zero_le _, rfl, by simp, _, HI.out⟩
    case round =>
      obtain ⟨wo, rfl⟩ : ∃ wo : World, wo = wr := ⟨_, rfl⟩
      obtain ⟨k, hk, rfl, hall, U, hq⟩ := hrel
      have Hq := Lib.hid hq
      have Hall := Lib.hid hall
      clear hq HI hall
      obtain ⟨a0, n0, c0, a1, n1, c1, a2, n2, c2, a3, n3, c3, e0, e1, e2, e3⟩ := isVn_sl Hq.out.vu
      have E0 := Lib.hid e0
      have E1 := Lib.hid e1
      have E2 := Lib.hid e2
      have E3 := Lib.hid e3
      have hUc : U.cells = #[.slice a0 n0 c0, .slice a1 n1 c1, .slice a2 n2 c2, .slice a3 n3 c3] := by unfold Vn.cells; rw [e0, e1, e2, e3]
      have HUc := Lib.hid hUc
      clear e0 e1 e2 e3 hUc
      by_cases hkm : k < m
      · obtain ⟨b9, off, rfl, hcell⟩ := Hax.out (by rw [← Hm.out]; omega)
        obtain ⟨e, he⟩ : ∃ e, l[k]? = some e := ⟨_, List.getElem?_eq_getElem (by rw [← Hm.out]; exact hkm)⟩
        obtain ⟨d0, d1⟩ := isEd_row hcell Hq.out.bel he
        obtain ⟨hpl, hdz⟩ := Hin.out e (List.mem_of_getElem? he)
        have Hsucc := Lib.hid (playP_succ he)
        have He := Lib.hid he
        obtain ⟨va, vd, ps, zs⟩ := e
        dsimp only at d0 d1 hpl hdz
        obtain ⟨pa, pc, rfl, -, -, -⟩ := id hpl.1
        obtain ⟨za, zc, rfl, -, -, -⟩ := id hdz
        obtain ⟨-, hpc, hpm, hpx⟩ := hpl.1.at
        have Hpx := Lib.hid hpx
        have Hrr := Lib.hid hpl.2
        have Hplw := Lib.hid hpl
        have Hdzw := Lib.hid hdz
        obtain ⟨np, hnp⟩ : ∃ np, np = ps.length := ⟨_, rfl⟩
        obtain ⟨nz, hnz⟩ : ∃ nz, nz = zs.length := ⟨_, rfl⟩
        rw [← hnp] at d0 hpc Hplw
        rw [← hnz] at d1 Hdzw
        have Hnp := Lib.hid hnp
        have Hnz := Lib.hid hnz
        have HqE := Lib.hid (Hq.out.below ((Below.refl _ _).alloc (Nat.le_refl _) (.cells #[.slice pa np pc, .slice za nz zc] 56)))
        have HE := Lib.hid (blk_of_alloc wo (.cells #[.slice pa np pc, .slice za nz zc] 56))
        obtain ⟨eb, heb⟩ : ∃ eb, eb = wo.heap.size := ⟨_, rfl⟩
        rw [← heb] at HE
        have Heb := Lib.hid heb
        clear hcell he hpl hdz hpx hnp hnz heb
        by_cases hp10 : 10 < np
        · have hd1 : decide ((np : Int) > 10) = true := decide_eq_true (by omega)
          have hd2 : decide (10 < (np : Int)) = true := decide_eq_true (by omega)
          have c0' := (cell_of_blk HqE.out.cv 0).trans (show _ = some (.slice a0 n0 c0) from (vn_cell U (by omega)).trans (by rw [E0.out]))
          have c1' := (cell_of_blk HqE.out.cv 1).trans (show _ = some (.slice a1 n1 c1) from (vn_cell U (by omega)).trans (by rw [E1.out]))
          have c2' := (cell_of_blk HqE.out.cv 2).trans (show _ = some (.slice a2 n2 c2) from (vn_cell U (by omega)).trans (by rw [E2.out]))
          have c3' := (cell_of_blk HqE.out.cv 3).trans (show _ = some (.slice a3 n3 c3) from (vn_cell U (by omega)).trans (by rw [E3.out]))
          have v0 := (cell_of_blk HqE.out.res 0).trans (show _ = some (.slice none 0 0) from rfl)
          have v1 := (cell_of_blk HqE.out.res 1).trans (show _ = some (.slice none 0 0) from rfl)
          have v2 := (cell_of_blk HqE.out.res 2).trans (show _ = some (.slice none 0 0) from rfl)
          have v3 := (cell_of_blk HqE.out.res 3).trans (show _ = some (.slice none 0 0) from rfl)
          have r0 := frozen_of_blk HqE.out.res 0
          have r1 := frozen_of_blk HqE.out.res 1
          have r2 := frozen_of_blk HqE.out.res 2
          have r3 := frozen_of_blk HqE.out.res 3
          have HRv := Lib.hid (ret_ver (U := U) HqE.out.res HqE.out.bel)
          rw [E0.out, E1.out, E2.out, E3.out] at HRv
          have hUcc : U.cells = #[.slice a0 n0 c0, .slice a1 n1 c1, .slice a2 n2 c2, .slice a3 n3 c3] := by unfold Vn.cells; rw [E0.out, E1.out, E2.out, E3.out]
          rw [hUcc] at HRv
          clear hUcc
          have HBad : Hid (smallB l = false) := Lib.hid (smallB_bad He.out (by unfold edSmall; dsimp only; rw [← Hnp.out, decide_eq_false (by omega)]; rfl))
          go_wp2_with fail
          refine bodyPost_ret (results_row_slot3 Tryd.results8 _ _ w.heap.size 26 _ (0, 0) _ _ _ rfl rfl rfl HRv.out.1 Tryd.underlying26 rfl vnInfo) rfl ?_
          exact Lib.hid (pkOut_no HBad.out HRv.out.2)
        · have hd1 : decide ((np : Int) > 10) = false := decide_eq_false (by omega)
          have hd2 : decide (10 < (np : Int)) = false := decide_eq_false (by omega)
          by_cases hz10 : 10 < nz
          · have hd3 : decide ((nz : Int) > 10) = true := decide_eq_true (by omega)
            have hd4 : decide (10 < (nz : Int)) = true := decide_eq_true (by omega)
            have c0' := (cell_of_blk HqE.out.cv 0).trans (show _ = some (.slice a0 n0 c0) from (vn_cell U (by omega)).trans (by rw [E0.out]))
            have c1' := (cell_of_blk HqE.out.cv 1).trans (show _ = some (.slice a1 n1 c1) from (vn_cell U (by omega)).trans (by rw [E1.out]))
            have c2' := (cell_of_blk HqE.out.cv 2).trans (show _ = some (.slice a2 n2 c2) from (vn_cell U (by omega)).trans (by rw [E2.out]))
            have c3' := (cell_of_blk HqE.out.cv 3).trans (show _ = some (.slice a3 n3 c3) from (vn_cell U (by omega)).trans (by rw [E3.out]))
            have v0 := (cell_of_blk HqE.out.res 0).trans (show _ = some (.slice none 0 0) from rfl)
            have v1 := (cell_of_blk HqE.out.res 1).trans (show _ = some (.slice none 0 0) from rfl)
            have v2 := (cell_of_blk HqE.out.res 2).trans (show _ = some (.slice none 0 0) from rfl)
            have v3 := (cell_of_blk HqE.out.res 3).trans (show _ = some (.slice none 0 0) from rfl)
            have r0 := frozen_of_blk HqE.out.res 0
            have r1 := frozen_of_blk HqE.out.res 1
            have r2 := frozen_of_blk HqE.out.res 2
            have r3 := frozen_of_blk HqE.out.res 3
            have HRv := Lib.hid (ret_ver (U := U) HqE.out.res HqE.out.bel)
            rw [E0.out, E1.out, E2.out, E3.out] at HRv
            have hUcc : U.cells = #[.slice a0 n0 c0, .slice a1 n1 c1, .slice a2 n2 c2, .slice a3 n3 c3] := by unfold Vn.cells; rw [E0.out, E1.out, E2.out, E3.out]
            rw [hUcc] at HRv
            clear hUcc
            have HBad : Hid (smallB l = false) := Lib.hid (smallB_bad He.out (by unfold edSmall; dsimp only; rw [← Hnz.out, decide_eq_false (show ¬ nz ≤ 10 by omega), Bool.false_and, Bool.and_false]))
            go_wp2_with fail
            refine bodyPost_ret (results_row_slot3 Tryd.results8 _ _ w.heap.size 26 _ (0, 0) _ _ _ rfl rfl rfl HRv.out.1 Tryd.underlying26 rfl vnInfo) rfl ?_
            exact Lib.hid (pkOut_no HBad.out HRv.out.2)
          · have hd3 : decide ((nz : Int) > 10) = false := decide_eq_false (by omega)
            have hd4 : decide (10 < (nz : Int)) = false := decide_eq_false (by omega)
            go_upto_region 10 with fail
            rw [← Heb.out]
            generalize wo.alloc (.cells #[.slice pa np pc, .slice za nz zc] 56) = We at *
            clear d0 d1
            have g0 := (cell_of_blk HE.out 0).trans (show _ = some (.slice pa np pc) from rfl)
            go_wp2_with fail
            clear g0
            go_loopw [48] (fun iv wr => ∃ i : Nat, i ≤ np ∧ iv = .int .i64 i ∧ (ps.take i).all plSmall = true ∧ Below We.heap.size We wr) (fun iv _ => np - (intOf iv).toNat)
            case atStart => exact ⟨0, Nat.zero_le _, rfl, by simp, Below.refl _ _⟩
            case round =>
              obtain ⟨wq, rfl⟩ : ∃ wq : World, wq = wr := ⟨_, rfl⟩
              obtain ⟨i, hi, rfl, hall2, hb2⟩ := hrel
              have Hall2 := Lib.hid hall2
              have Hb2 := Lib.hid hb2
              have HqQ := Lib.hid (HqE.out.below hb2)
              clear hall2 hb2
              by_cases hin : i < np
              · obtain ⟨b3, off3, rfl, hcell3⟩ := Hpx.out (by rw [← Hnp.out]; omega)
                obtain ⟨p, hp⟩ : ∃ p, ps[i]? = some p := ⟨_, List.getElem?_eq_getElem (by rw [← Hnp.out]; exact hin)⟩
                obtain ⟨f0, f1, f2, f3, f4, f5, f6, f7, f8, f9⟩ := IsPl.row (w := wq) (fun i x hi y z hz => (HqQ.out.bel.cell (block_lt_of_cell (hcell3 i x hi y z hz))).trans (hcell3 i x hi y z hz)) hp
                have hrp := Hrr.out p (List.mem_of_getElem? hp)
                have Hp := Lib.hid hp
                obtain ⟨lv, ⟨⟨mz, mn, ⟨au, asq, ak⟩, ⟨bu, bs, bk⟩, refs⟩, vr⟩⟩ := p
                dsimp only at f0 f1 f2 f3 f4 f5 f6 f7 f8 f9 hrp
                obtain ⟨ra, rc, hrv, -, -, -⟩ := id hrp
                obtain ⟨rn, hrn⟩ : ∃ rn, rn = refs.length := ⟨_, rfl⟩
                rw [← hrn] at hrv
                subst hrv
                have Hrn := Lib.hid hrn
                obtain ⟨ua, hua⟩ : ∃ ua, ua = au.size := ⟨_, rfl⟩
                obtain ⟨ub, hub⟩ : ∃ ub, ub = bu.size := ⟨_, rfl⟩
                have HPA : Hid (Below wq.heap.size wq (wq.alloc (.cells #[.int .i64 lv, .int .i64 mz, .int .i64 mn, .string au, .int .i64 asq, .int .i64 ak, .string bu, .int .i64 bs, .int .i64 bk, .slice ra rn rc] 53))) := Lib.hid ((Below.refl _ _).alloc (Nat.le_refl _) _)
                have HqP := Lib.hid (HqQ.out.below HPA.out)
                have Hbw := Lib.hid (Hb2.out.trans (HPA.out.mono Hb2.out.size))
                clear hcell3 hp hrp hrn
                have Hbad : Hid (20 < rn ∨ 200 < ua ∨ 200 < ub → smallB l = false) := Lib.hid (fun q => smallB_bad He.out (edSmall_bad Hp.out (plSmall_no (by dsimp only; rw [← Hrn.out, ← hua, ← hub]; exact q))))
                have Hgd : Hid (rn ≤ 20 → ua ≤ 200 → ub ≤ 200 → (ps.take (i + 1)).all plSmall = true) := Lib.hid (fun q1 q2 q3 => all_step Hp.out Hall2.out (by unfold plSmall; dsimp only; rw [← Hrn.out, ← hua, ← hub, decide_eq_true q1, decide_eq_true q2, decide_eq_true q3]; rfl))
                by_cases h1 : 20 < rn
                · have f1' : decide ((rn : Int) > 20) = true := decide_eq_true (by omega)
                  have f2' : decide (20 < (rn : Int)) = true := decide_eq_true (by omega)
                  have HBd := Lib.hid (Hbad.out (.inl h1))
                  clear Hbad Hgd hua hub
                  have c0' := (cell_of_blk HqP.out.cv 0).trans (show _ = some (.slice a0 n0 c0) from (vn_cell U (by omega)).trans (by rw [E0.out]))
                  have c1' := (cell_of_blk HqP.out.cv 1).trans (show _ = some (.slice a1 n1 c1) from (vn_cell U (by omega)).trans (by rw [E1.out]))
                  have c2' := (cell_of_blk HqP.out.cv 2).trans (show _ = some (.slice a2 n2 c2) from (vn_cell U (by omega)).trans (by rw [E2.out]))
                  have c3' := (cell_of_blk HqP.out.cv 3).trans (show _ = some (.slice a3 n3 c3) from (vn_cell U (by omega)).trans (by rw [E3.out]))
                  have v0 := (cell_of_blk HqP.out.res 0).trans (show _ = some (.slice none 0 0) from rfl)
                  have v1 := (cell_of_blk HqP.out.res 1).trans (show _ = some (.slice none 0 0) from rfl)
                  have v2 := (cell_of_blk HqP.out.res 2).trans (show _ = some (.slice none 0 0) from rfl)
                  have v3 := (cell_of_blk HqP.out.res 3).trans (show _ = some (.slice none 0 0) from rfl)
                  have r0 := frozen_of_blk HqP.out.res 0
                  have r1 := frozen_of_blk HqP.out.res 1
                  have r2 := frozen_of_blk HqP.out.res 2
                  have r3 := frozen_of_blk HqP.out.res 3
                  have HRv := Lib.hid (ret_ver (U := U) HqP.out.res HqP.out.bel)
                  rw [E0.out, E1.out, E2.out, E3.out] at HRv
                  have hUcc : U.cells = #[.slice a0 n0 c0, .slice a1 n1 c1, .slice a2 n2 c2, .slice a3 n3 c3] := by unfold Vn.cells; rw [E0.out, E1.out, E2.out, E3.out]
                  rw [hUcc] at HRv
                  clear hUcc
                  have HBad : Hid (smallB l = false) := Lib.hid (HBd.out)
                  go_wp2_with fail
                  refine bodyPost_ret (results_row_slot3 Tryd.results8 _ _ w.heap.size 26 _ (0, 0) _ _ _ rfl rfl rfl HRv.out.1 Tryd.underlying26 rfl vnInfo) rfl ?_
                  exact Lib.hid (pkOut_no HBad.out HRv.out.2)
                · have f1' : decide ((rn : Int) > 20) = false := decide_eq_false (by omega)
                  have f2' : decide (20 < (rn : Int)) = false := decide_eq_false (by omega)
                  by_cases h2 : 200 < ua
                  · have g1 : decide ((au.size : Int) > 200) = true := decide_eq_true (by omega)
                    have g2 : decide (200 < (au.size : Int)) = true := decide_eq_true (by omega)
                    have HBd := Lib.hid (Hbad.out (.inr (.inl h2)))
                    clear Hbad Hgd hua hub
                    have c0' := (cell_of_blk HqP.out.cv 0).trans (show _ = some (.slice a0 n0 c0) from (vn_cell U (by omega)).trans (by rw [E0.out]))
                    have c1' := (cell_of_blk HqP.out.cv 1).trans (show _ = some (.slice a1 n1 c1) from (vn_cell U (by omega)).trans (by rw [E1.out]))
                    have c2' := (cell_of_blk HqP.out.cv 2).trans (show _ = some (.slice a2 n2 c2) from (vn_cell U (by omega)).trans (by rw [E2.out]))
                    have c3' := (cell_of_blk HqP.out.cv 3).trans (show _ = some (.slice a3 n3 c3) from (vn_cell U (by omega)).trans (by rw [E3.out]))
                    have v0 := (cell_of_blk HqP.out.res 0).trans (show _ = some (.slice none 0 0) from rfl)
                    have v1 := (cell_of_blk HqP.out.res 1).trans (show _ = some (.slice none 0 0) from rfl)
                    have v2 := (cell_of_blk HqP.out.res 2).trans (show _ = some (.slice none 0 0) from rfl)
                    have v3 := (cell_of_blk HqP.out.res 3).trans (show _ = some (.slice none 0 0) from rfl)
                    have r0 := frozen_of_blk HqP.out.res 0
                    have r1 := frozen_of_blk HqP.out.res 1
                    have r2 := frozen_of_blk HqP.out.res 2
                    have r3 := frozen_of_blk HqP.out.res 3
                    have HRv := Lib.hid (ret_ver (U := U) HqP.out.res HqP.out.bel)
                    rw [E0.out, E1.out, E2.out, E3.out] at HRv
                    have hUcc : U.cells = #[.slice a0 n0 c0, .slice a1 n1 c1, .slice a2 n2 c2, .slice a3 n3 c3] := by unfold Vn.cells; rw [E0.out, E1.out, E2.out, E3.out]
                    rw [hUcc] at HRv
                    clear hUcc
                    have HBad : Hid (smallB l = false) := Lib.hid (HBd.out)
                    go_wp2_with fail
                    refine bodyPost_ret (results_row_slot3 Tryd.results8 _ _ w.heap.size 26 _ (0, 0) _ _ _ rfl rfl rfl HRv.out.1 Tryd.underlying26 rfl vnInfo) rfl ?_
                    exact Lib.hid (pkOut_no HBad.out HRv.out.2)
                  · have g1 : decide ((au.size : Int) > 200) = false := decide_eq_false (by omega)
                    have g2 : decide (200 < (au.size : Int)) = false := decide_eq_false (by omega)
                    by_cases h3 : 200 < ub
                    · have k1 : decide ((bu.size : Int) > 200) = true := decide_eq_true (by omega)
                      have k2 : decide (200 < (bu.size : Int)) = true := decide_eq_true (by omega)
                      have HBd := Lib.hid (Hbad.out (.inr (.inr h3)))
                      clear Hbad Hgd hua hub
                      have c0' := (cell_of_blk HqP.out.cv 0).trans (show _ = some (.slice a0 n0 c0) from (vn_cell U (by omega)).trans (by rw [E0.out]))
                      have c1' := (cell_of_blk HqP.out.cv 1).trans (show _ = some (.slice a1 n1 c1) from (vn_cell U (by omega)).trans (by rw [E1.out]))
                      have c2' := (cell_of_blk HqP.out.cv 2).trans (show _ = some (.slice a2 n2 c2) from (vn_cell U (by omega)).trans (by rw [E2.out]))
                      have c3' := (cell_of_blk HqP.out.cv 3).trans (show _ = some (.slice a3 n3 c3) from (vn_cell U (by omega)).trans (by rw [E3.out]))
                      have v0 := (cell_of_blk HqP.out.res 0).trans (show _ = some (.slice none 0 0) from rfl)
                      have v1 := (cell_of_blk HqP.out.res 1).trans (show _ = some (.slice none 0 0) from rfl)
                      have v2 := (cell_of_blk HqP.out.res 2).trans (show _ = some (.slice none 0 0) from rfl)
                      have v3 := (cell_of_blk HqP.out.res 3).trans (show _ = some (.slice none 0 0) from rfl)
                      have r0 := frozen_of_blk HqP.out.res 0
                      have r1 := frozen_of_blk HqP.out.res 1
                      have r2 := frozen_of_blk HqP.out.res 2
                      have r3 := frozen_of_blk HqP.out.res 3
                      have HRv := Lib.hid (ret_ver (U := U) HqP.out.res HqP.out.bel)
                      rw [E0.out, E1.out, E2.out, E3.out] at HRv
                      have hUcc : U.cells = #[.slice a0 n0 c0, .slice a1 n1 c1, .slice a2 n2 c2, .slice a3 n3 c3] := by unfold Vn.cells; rw [E0.out, E1.out, E2.out, E3.out]
                      rw [hUcc] at HRv
                      clear hUcc
                      have HBad : Hid (smallB l = false) := Lib.hid (HBd.out)
                      go_wp2_with fail
                      refine bodyPost_ret (results_row_slot3 Tryd.results8 _ _ w.heap.size 26 _ (0, 0) _ _ _ rfl rfl rfl HRv.out.1 Tryd.underlying26 rfl vnInfo) rfl ?_
                      exact Lib.hid (pkOut_no HBad.out HRv.out.2)
                    · have k1 : decide ((bu.size : Int) > 200) = false := decide_eq_false (by omega)
                      have k2 : decide (200 < (bu.size : Int)) = false := decide_eq_false (by omega)
                      have HG := Lib.hid (Hgd.out (by omega) (by omega) (by omega))
                      clear Hbad Hgd hua hub
                      go_wp2_with fail
                      go_roundw
                      case rel => exact ⟨i + 1, by omega, by go_num, HG.out, Hbw.out⟩
                      case measure => simp [intOf]; omega
              · obtain rfl : i = np := by omega
                have Hes : Hid (edSmall ⟨.slice pa i pc, .slice za nz zc, ps, zs⟩ = true) := Lib.hid (by
                  unfold edSmall
                  dsimp only
                  have := Hall2.out
                  rw [Hnp.out, List.take_length] at this
                  rw [← Hnp.out, ← Hnz.out, decide_eq_true (show i ≤ 10 by omega), decide_eq_true (show nz ≤ 10 by omega), this]; rfl)
                have HG : Hid ((l.take (k + 1)).all edSmall = true) := Lib.hid (all_step He.out Hall.out (by have := Hes.out; rw [Hnp.out, Hnz.out] at this; exact this))
                have Hpsm := Lib.hid (edSmall_ps Hes.out).2.2
                have HplQ := Lib.hid (pl_bel Hplw.out HqQ.out.bel)
                have HdzQ := Lib.hid (Hdzw.out.below HqQ.out.bel)
                have HPl := Lib.hid (playP_okp k (by rw [← Hm.out]; omega) Hall.out)
                have HLs := Lib.hid (HPl.out.1.mono (show 10 * k ≤ 2000 by omega))
                have hpl10 : ps.length ≤ 1000 := by rw [← Hnp.out]; omega
                have cv := fun j => cell_of_blk HqQ.out.cv j
                have c0' := (cv 0).trans (show _ = some (.slice a0 n0 c0) from (vn_cell U (by omega)).trans (by rw [E0.out]))
                have c1' := (cv 1).trans (show _ = some (.slice a1 n1 c1) from (vn_cell U (by omega)).trans (by rw [E1.out]))
                have c2' := (cv 2).trans (show _ = some (.slice a2 n2 c2) from (vn_cell U (by omega)).trans (by rw [E2.out]))
                have c3' := (cv 3).trans (show _ = some (.slice a3 n3 c3) from (vn_cell U (by omega)).trans (by rw [E3.out]))
                have HEq := Lib.hid (blk_bels Hb2.out HE.out)
                have g0 := (cell_of_blk HEq.out 0).trans (show _ = some (.slice pa i pc) from rfl)
                have g1 := (cell_of_blk HEq.out 1).trans (show _ = some (.slice za nz zc) from rfl)
                clear cv
                cases ha : applyP (playP l k) zs (psM ps) with
                | none =>
                  have hv := vapply_no HqQ.out.vu HqQ.out.eu HLs.out HPl.out.2 HplQ.out HdzQ.out hpl10 Hpsm.out ha
                  rw [HUc.out] at hv
                  have Hv := Lib.hid hv
                  have Hstep : Hid (playP l (k + 1) = playP l k) := Lib.hid (Hsucc.out.trans (by unfold stepP; dsimp only; rw [ha]))
                  clear ha hv
                  go_wp2_with fail
                  refine Hv.out.mono ?_
                  rintro e w2 ⟨rfl, hb2⟩
                  have HqR := Lib.hid ((HqQ.out.below hb2).below ((Below.refl _ _).alloc (Nat.le_refl _) (.cells #[.slice none 0 0, .slice none 0 0, .slice none 0 0, .slice none 0 0] 26)))
                  clear Hv c0' c1' c2' c3' g0 g1 hb2
                  unfold Vn.none Vn.cells
                  dsimp only
                  go_wp2_with fail
                  go_roundw
                  case rel => exact ⟨k + 1, by omega, by go_num, HG.out, U, by rw [Hstep.out]; exact HqR.out⟩
                  case measure => simp [intOf]; omega
                | some L' =>
                  have hv := vapply_yes HqQ.out.vu HqQ.out.eu HLs.out HPl.out.2 HplQ.out HdzQ.out hpl10 Hpsm.out ha
                  rw [HUc.out] at hv
                  have Hv := Lib.hid hv
                  have Hstep : Hid (playP l (k + 1) = L') := Lib.hid (Hsucc.out.trans (by unfold stepP; dsimp only; rw [ha]))
                  clear ha hv
                  go_wp2_with fail
                  refine Hv.out.mono ?_
                  rintro e w2 ⟨V, rfl, hVo, hVe, hb2⟩
                  obtain ⟨x0, k0, y0, x1, k1, y1, x2, k2, y2, x3, k3, y3, e0, e1, e2, e3⟩ := vn_slices hVo
                  have hVc : V.cells = #[.slice x0 k0 y0, .slice x1 k1 y1, .slice x2 k2 y2, .slice x3 k3 y3] := by unfold Vn.cells; rw [e0, e1, e2, e3]
                  have hb3 : Below w2.heap.size w2 (w2.alloc (.cells #[.slice x0 k0 y0, .slice x1 k1 y1, .slice x2 k2 y2, .slice x3 k3 y3] 26)) := (Below.refl _ _).alloc (Nat.le_refl _) _
                  have HqR := Lib.hid ((HqQ.out.below hb2).below hb3)
                  have HqT := HqR.out.next ((hVo.isVn).below hb3) hVe
                  rw [e0, e1, e2, e3] at HqT
                  have HqT := Lib.hid HqT
                  have v0 := (cell_of_blk HqR.out.cv 0).trans (vn_cell U (by omega))
                  have v1 := (cell_of_blk HqR.out.cv 1).trans (vn_cell U (by omega))
                  have v2 := (cell_of_blk HqR.out.cv 2).trans (vn_cell U (by omega))
                  have v3 := (cell_of_blk HqR.out.cv 3).trans (vn_cell U (by omega))
                  have r0 := frozen_of_blk HqR.out.cv 0
                  have r1 := frozen_of_blk HqR.out.cv 1
                  have r2 := frozen_of_blk HqR.out.cv 2
                  have r3 := frozen_of_blk HqR.out.cv 3
                  rw [hVc]
                  clear Hv c0' c1' c2' c3' g0 g1 hb2 hb3 hVo hVe hVc e0 e1 e2 e3
                  go_wp2_with fail
                  go_roundw
                  case rel => exact ⟨k + 1, by omega, by go_num, HG.out, V, by rw [Hstep.out]; exact HqT.out⟩
                  case measure => simp [intOf]; omega
      · obtain rfl : k = m := by omega
        have Hsm : Hid (smallB l = true) := Lib.hid (by
          have := Hall.out
          rw [Hm.out, List.take_length] at this
          unfold smallB
          rw [this, ← Hm.out, decide_eq_true (show k ≤ 40 by omega)]; rfl)
        have HPl := Lib.hid (playP_okp k (by rw [← Hm.out]; omega) Hall.out)
        have HlU := Lib.hid (lvS_l HPl.out.1 Hq.out.eu)
        have HeU : Hid (LvE (lvOf U.l) (playP l l.length)) := Lib.hid (by rw [← Hm.out]; exact Hq.out.eu)
        have cv := fun j => cell_of_blk Hq.out.cv j
        have c0' := (cv 0).trans (show _ = some (U.v 0) from vn_cell U (by omega))
        have c1' := (cv 1).trans (show _ = some (U.v 1) from vn_cell U (by omega))
        have c2' := (cv 2).trans (show _ = some (U.v 2) from vn_cell U (by omega))
        have c3' := (cv 3).trans (show _ = some (U.v 3) from vn_cell U (by omega))
        have HX0 := Lib.hid (XqI.start Hq.out)
        clear cv Hall
        go_wp2_with fail
        clear c0' c1' c2' c3'
        go_loopw [88] (fun nv wr => ∃ n : Nat, n ≤ 4 ∧ nv = .int .i64 n ∧ ∃ X : Vn, XqI w U X n wr) (fun nv _ => 4 - (intOf nv).toNat)
        case atStart => exact ⟨0, Nat.zero_le _, rfl, _, HX0.out⟩
        case round =>
          obtain ⟨wl, rfl⟩ : ∃ wl : World, wl = wr := ⟨_, rfl⟩
          obtain ⟨n, hn, rfl, X, hx⟩ := hrel
          have Hx := Lib.hid hx
          clear hx HX0 Hq
          by_cases hn4 : n < 4
          · have hni : (n : Int) < 4 := by omega
            have hix := fun W => index_vn U hn4 W
            obtain ⟨ua, uc, huv⟩ := isMr_slice (Hx.out.vu n hn4)
            have hmr := Hx.out.vu n hn4
            rw [huv] at hix hmr
            obtain ⟨-, huc, hum, hux⟩ := hmr.1.at
            have Hux := Lib.hid hux
            have Hurr := Lib.hid hmr.2
            obtain ⟨lu, hlu⟩ : ∃ lu, lu = U.l n := ⟨_, rfl⟩
            have hl400 : lu.length ≤ 400 := by rw [hlu]; have := (HlU.out n hn4).1; omega
            have Hlsm := Lib.hid (HlU.out n hn4).2
            have HRs := RwI.start Hx.out hn4
            rw [← hlu] at hix huc Hux Hurr HRs Hlsm
            have HRs := Lib.hid HRs
            obtain ⟨mm, hmm⟩ : ∃ mm, mm = lu.length := ⟨_, rfl⟩
            rw [← hmm] at hix huc hl400
            have Hmm := Lib.hid hmm
            have Hlu := Lib.hid hlu
            clear huv hmr hux hlu hmm
            go_wp2_with fail
            go_loopw [94] (fun iv wr => ∃ i : Nat, i ≤ mm ∧ iv = .int .i64 i ∧ ∃ xa xc rows, RwI w wl X n lu i xa xc rows wr) (fun iv _ => mm - (intOf iv).toNat)
            case atStart => exact ⟨0, Nat.zero_le _, rfl, none, 0, [], HRs.out⟩
            case round =>
              obtain ⟨wq, rfl⟩ : ∃ wq : World, wq = wr := ⟨_, rfl⟩
              obtain ⟨i, hi, rfl, xa, xc, rows, hr⟩ := hrel
              have Hr := Lib.hid hr
              clear hr HRs
              have hs := isVn_slv Hx.out.vx
              by_cases him : i < mm
              · obtain ⟨b4, off4, rfl, hcell4⟩ := Hux.out (by rw [← Hmm.out]; omega)
                obtain ⟨r, hr⟩ : ∃ r, lu[i]? = some r := ⟨_, List.getElem?_eq_getElem (by rw [← Hmm.out]; exact him)⟩
                have hmk := isMr_kept (Hx.out.vu n hn4) Hx.out.cx hs Hr.out.kept
                have hrw := Hurr.out r (List.mem_of_getElem? hr)
                have hrk : IsRr wq r.2 r.1.refs := hmk.2 r (by rw [← Hlu.out]; exact List.mem_of_getElem? hr)
                obtain ⟨ua2, uc2, huv2⟩ := isMr_slice hmk
                have hsm := Hlsm.out r (List.mem_of_getElem? hr)
                have hkc : ∀ (o : Nat) (y : Value), wl.cell? ⟨b4, o, none⟩ = some y → b4 ≠ w.heap.size + 1 + 1 → wq.cell? ⟨b4, o, none⟩ = some y := fun o y hy hne => by
                  have hlt := block_lt_of_cell hy
                  have hh : wq.heap[b4]? = wl.heap[b4]? := by rw [Array.getElem?_eq_getElem hlt]; exact Hr.out.kept.same b4 _ hne (Array.getElem?_eq_getElem hlt)
                  rw [← hy]
                  simp only [World.cell?, hh]
                obtain ⟨d0, d1, d2, d3, d4, d5, d6, d7, d8⟩ := IsMr.row hcell4 hr
                have hne4 : b4 ≠ w.heap.size + 1 + 1 := by
                  rintro rfl
                  rw [cell_of_blk Hx.out.cx] at d0
                  obtain ⟨a', n', c', e'⟩ := hs _ _ d0
                  cases e'
                replace d0 := hkc _ _ d0 hne4
                replace d1 := hkc _ _ d1 hne4
                replace d2 := hkc _ _ d2 hne4
                replace d3 := hkc _ _ d3 hne4
                replace d4 := hkc _ _ d4 hne4
                replace d5 := hkc _ _ d5 hne4
                replace d6 := hkc _ _ d6 hne4
                replace d7 := hkc _ _ d7 hne4
                replace d8 := hkc _ _ d8 hne4
                have He9 : Hid (lu[i]?.map (·.1) = some r.1) := Lib.hid (by rw [hr]; rfl)
                obtain ⟨⟨mz, mn, a, b, refs⟩, vr⟩ := r
                dsimp only at d0 d1 d2 d3 d4 d5 d6 d7 d8 hrk hsm He9
                obtain ⟨ra, rc, hrv, hrc1, hrc2, hrx⟩ := id hrk
                obtain ⟨rn, hrn⟩ : ∃ rn, rn = refs.length := ⟨_, rfl⟩
                rw [← hrn] at hrv hrc1
                subst hrv
                have hrn20 : rn ≤ 20 := by rw [hrn]; exact hsm.1
                have Hrn := Lib.hid hrn
                have Hrx := Lib.hid hrx
                have HAm := Lib.hid ((Below.refl wq.heap.size wq).alloc (Nat.le_refl _) (.cells #[.int .i64 mz, .int .i64 mn, .string a.u, .int .i64 a.s, .int .i64 a.k, .string b.u, .int .i64 b.s, .int .i64 b.k, .slice ra rn rc] 49))
                have HM := Lib.hid (blk_of_alloc wq (.cells #[.int .i64 mz, .int .i64 mn, .string a.u, .int .i64 a.s, .int .i64 a.k, .string b.u, .int .i64 b.s, .int .i64 b.k, .slice ra rn rc] 49))
                obtain ⟨mb, hmb⟩ : ∃ mb, mb = wq.heap.size := ⟨_, rfl⟩
                have Hmb := Lib.hid hmb
                rw [← hmb] at HM
                have Hmlt : Hid (mb < (wq.alloc (.cells #[.int .i64 mz, .int .i64 mn, .string a.u, .int .i64 a.s, .int .i64 a.k, .string b.u, .int .i64 b.s, .int .i64 b.k, .slice ra rn rc] 49)).heap.size) := Lib.hid (blk_lt HM.out)
                have HKA := Lib.hid (fun W => refKey17_any a W)
                have HKB := Lib.hid (fun W => refKey17_any b W)
                clear hcell4 hr hmk hrw hrk huv2 hsm hkc hne4 hrx hrn hmb hs
                go_upto_region 26 with fail
                rw [← Hmb.out]
                generalize wq.alloc (.cells #[.int .i64 mz, .int .i64 mn, .string a.u, .int .i64 a.s, .int .i64 a.k, .string b.u, .int .i64 b.s, .int .i64 b.k, .slice ra rn rc] 49) = Wm at *
                clear d0 d1 d2 d3 d4 d5 d6 d7 d8
                go_cut [17] (fun pv wc => ∃ P, pv = .pointer (some ⟨P, 0, none⟩) ∧ wc.heap[P]? = some (.cells #[.int .i64 mz, .int .i64 mn, .string a.u, .int .i64 a.s, .int .i64 a.k, .string b.u, .int .i64 b.s, .int .i64 b.k, .slice none 0 0] 73 (0, 0)) ∧ Wm.heap.size ≤ P ∧ Below Wm.heap.size Wm wc)
                case first =>
                  have hS : Wm.drew.heap[mb]? = some (.cells #[.int .i64 mz, .int .i64 mn, .string a.u, .int .i64 a.s, .int .i64 a.k, .string b.u, .int .i64 b.s, .int .i64 b.k, .slice ra rn rc] 49 (0, 0)) := HM.out
                  have K0 := Lib.hid ((Below.refl Wm.heap.size Wm).drew)
                  have hmlt := Hmlt.out
                  refine wp_region_held_drew (S := fun V => V.heap[mb]? = some (.cells #[.int .i64 mz, .int .i64 mn, .string a.u, .int .i64 a.s, .int .i64 a.k, .string b.u, .int .i64 b.s, .int .i64 b.k, .slice ra rn rc] 49 (0, 0))) (by kernel_rfl) hS (fun hS0 => ?_)
                  refine wpAnyH_take (i := 0) (oi := { dst := some 98, op := Op.fieldAddr 49 (Operand.tmp 16) 0, type := 0, pos := "law.go:51", after := #[], guard := none }) (v := ?_) rfl (by kernel_rfl) (by kernel_rfl) (by kernel_rfl) (fun _ _ _ h => h) (Or.inl ⟨by rfl, ?hy1⟩) hS0 ?_
                  case hy1 => (intro V hSw; (try dsimp only at hSw); have hcw := fun j => cell_of_blk hSw j; clear hSw; go_simp; try with_reducible rfl)
                  try simp only [Act.put, List.setIfInBounds_toArray, List.set_cons_zero, List.set_cons_succ]
                  refine wpAnyH_take (i := 1) (oi := { dst := some 99, op := Op.load 3 (Operand.tmp 98), type := 3, pos := "law.go:51", after := #[{ on := 0, ground := Ground.data }], guard := none }) (v := ?_) rfl (by kernel_rfl) (by kernel_rfl) (by kernel_rfl) (fun _ _ _ h => h) (Or.inl ⟨by rfl, ?hy2⟩) hS0 ?_
                  case hy2 => (intro V hSw; (try dsimp only at hSw); have hcw := fun j => cell_of_blk hSw j; clear hSw; go_simp; try with_reducible rfl)
                  try simp only [Act.put, List.setIfInBounds_toArray, List.set_cons_zero, List.set_cons_succ]
                  refine wpAnyH_take (i := 2) (oi := { dst := some 100, op := Op.fieldAddr 49 (Operand.tmp 16) 1, type := 0, pos := "law.go:51", after := #[], guard := none }) (v := ?_) rfl (by kernel_rfl) (by kernel_rfl) (by kernel_rfl) (fun _ _ _ h => h) (Or.inl ⟨by rfl, ?hy3⟩) hS0 ?_
                  case hy3 => (intro V hSw; (try dsimp only at hSw); have hcw := fun j => cell_of_blk hSw j; clear hSw; go_simp; try with_reducible rfl)
                  try simp only [Act.put, List.setIfInBounds_toArray, List.set_cons_zero, List.set_cons_succ]
                  refine wpAnyH_take (i := 3) (oi := { dst := some 101, op := Op.load 3 (Operand.tmp 100), type := 3, pos := "law.go:51", after := #[{ on := 2, ground := Ground.data }], guard := none }) (v := ?_) rfl (by kernel_rfl) (by kernel_rfl) (by kernel_rfl) (fun _ _ _ h => h) (Or.inl ⟨by rfl, ?hy4⟩) hS0 ?_
                  case hy4 => (intro V hSw; (try dsimp only at hSw); have hcw := fun j => cell_of_blk hSw j; clear hSw; go_simp; try with_reducible rfl)
                  try simp only [Act.put, List.setIfInBounds_toArray, List.set_cons_zero, List.set_cons_succ]
                  refine wpAnyH_take (i := 4) (oi := { dst := some 102, op := Op.fieldAddr 49 (Operand.tmp 16) 2, type := 0, pos := "law.go:51", after := #[], guard := none }) (v := ?_) rfl (by kernel_rfl) (by kernel_rfl) (by kernel_rfl) (fun _ _ _ h => h) (Or.inl ⟨by rfl, ?hy5⟩) hS0 ?_
                  case hy5 => (intro V hSw; (try dsimp only at hSw); have hcw := fun j => cell_of_blk hSw j; clear hSw; go_simp; try with_reducible rfl)
                  try simp only [Act.put, List.setIfInBounds_toArray, List.set_cons_zero, List.set_cons_succ]
                  refine wpAnyH_take (i := 5) (oi := { dst := some 103, op := Op.load 46 (Operand.tmp 102), type := 46, pos := "law.go:51", after := #[{ on := 4, ground := Ground.data }], guard := none }) (v := ?_) rfl (by kernel_rfl) (by kernel_rfl) (by kernel_rfl) (fun _ _ _ h => h) (Or.inl ⟨by rfl, ?hy6⟩) hS0 ?_
                  case hy6 => (intro V hSw; (try dsimp only at hSw); have hcw := fun j => cell_of_blk hSw j; clear hSw; go_simp; try with_reducible rfl)
                  try simp only [Act.put, List.setIfInBounds_toArray, List.set_cons_zero, List.set_cons_succ]
                  refine wpAnyH_take (i := 7) (oi := { dst := some 105, op := Op.fieldAddr 49 (Operand.tmp 16) 3, type := 0, pos := "law.go:51", after := #[], guard := none }) (v := ?_) rfl (by kernel_rfl) (by kernel_rfl) (by kernel_rfl) (fun _ _ _ h => h) (Or.inl ⟨by rfl, ?hy7⟩) hS0 ?_
                  case hy7 => (intro V hSw; (try dsimp only at hSw); have hcw := fun j => cell_of_blk hSw j; clear hSw; go_simp; try with_reducible rfl)
                  try simp only [Act.put, List.setIfInBounds_toArray, List.set_cons_zero, List.set_cons_succ]
                  refine wpAnyH_take (i := 8) (oi := { dst := some 106, op := Op.load 46 (Operand.tmp 105), type := 46, pos := "law.go:51", after := #[{ on := 7, ground := Ground.data }], guard := none }) (v := ?_) rfl (by kernel_rfl) (by kernel_rfl) (by kernel_rfl) (fun _ _ _ h => h) (Or.inl ⟨by rfl, ?hy8⟩) hS0 ?_
                  case hy8 => (intro V hSw; (try dsimp only at hSw); have hcw := fun j => cell_of_blk hSw j; clear hSw; go_simp; try with_reducible rfl)
                  try simp only [Act.put, List.setIfInBounds_toArray, List.set_cons_zero, List.set_cons_succ]
                  refine wpAnyH_ready (rs := [6, 11]) (by kernel_rfl) (by simp) (AllReadyH.cons rfl (fun K hK => ?_) (AllReadyH.cons rfl (fun K hK => ?_) AllReadyH.nil))
                  · go_simp
                    refine (HKA.out _).mono ?_
                    rintro e wvz1 ⟨rfl, hbvz1⟩
                    have hSz1 := blk_bels hbvz1 hS0
                    have Kz1 := Lib.hid (K0.out.trans (hbvz1.mono K0.out.size))
                    clear hbvz1
                    refine hK.out _ _ hSz1 (fun _ => ?_)
                    clear hK K
                    try simp only [Act.put, List.setIfInBounds_toArray, List.set_cons_zero, List.set_cons_succ]
                    refine wpAnyH_ready (rs := [9, 11]) (by kernel_rfl) (by simp) (AllReadyH.cons rfl (fun K hK => ?_) (AllReadyH.cons rfl (fun K hK => ?_) AllReadyH.nil))
                    · go_simp
                      refine (HKB.out _).mono ?_
                      rintro e wvz2 ⟨rfl, hbvz2⟩
                      have hSz2 := blk_bels hbvz2 hSz1
                      have Kz2 := Lib.hid (Kz1.out.trans (hbvz2.mono Kz1.out.size))
                      clear hbvz2
                      refine hK.out _ _ hSz2 (fun _ => ?_)
                      clear hK K
                      try simp only [Act.put, List.setIfInBounds_toArray, List.set_cons_zero, List.set_cons_succ]
                      refine wpAnyH_ready (rs := [10, 11]) (by kernel_rfl) (by simp) (AllReadyH.cons rfl (fun K hK => ?_) (AllReadyH.cons rfl (fun K hK => ?_) AllReadyH.nil))
                      · go_simp
                        refine hK.out _ _ hSz2 (fun _ => ?_)
                        clear hK K
                        try simp only [Act.put, List.setIfInBounds_toArray, List.set_cons_zero, List.set_cons_succ]
                        refine wpAnyH_ready (rs := [11]) (by kernel_rfl) (by simp) (AllReadyH.cons rfl (fun K hK => ?_) AllReadyH.nil)
                        go_simp
                        have hSz3 := blk_old hSz2 (.cells #[.int .i64 0, .int .i64 0, .string ⟨#[]⟩, .int .i64 0, .int .i64 0, .string ⟨#[]⟩, .int .i64 0, .int .i64 0, .slice none 0 0] 73)
                        have hpz3 : (wvz2.alloc (.cells #[.int .i64 0, .int .i64 0, .string ⟨#[]⟩, .int .i64 0, .int .i64 0, .string ⟨#[]⟩, .int .i64 0, .int .i64 0, .slice none 0 0] 73)).heap[wvz2.heap.size]? = _ := blk_of_alloc wvz2 (.cells #[.int .i64 0, .int .i64 0, .string ⟨#[]⟩, .int .i64 0, .int .i64 0, .string ⟨#[]⟩, .int .i64 0, .int .i64 0, .slice none 0 0] 73)
                        have Kz3 := Lib.hid (Kz2.out.alloc Kz2.out.size (.cells #[.int .i64 0, .int .i64 0, .string ⟨#[]⟩, .int .i64 0, .int .i64 0, .string ⟨#[]⟩, .int .i64 0, .int .i64 0, .slice none 0 0] 73))
                        have Kz3p : Hid (Wm.heap.size ≤ wvz2.heap.size) := Lib.hid Kz2.out.size
                        refine hK.out _ _ hSz3 (fun _ => ?_)
                        clear hK K
                        try simp only [Act.put, List.setIfInBounds_toArray, List.set_cons_zero, List.set_cons_succ]
                        refine wpAnyH_ready (rs := [12]) (by kernel_rfl) (by simp) (AllReadyH.cons rfl (fun K hK => ?_) AllReadyH.nil)
                        go_simp
                        refine hK.out _ _ ?hs (fun _ => ?_)
                        case hs => exact blk_old hSz2 _
                        clear hK K
                        try simp only [Act.put, List.setIfInBounds_toArray, List.set_cons_zero, List.set_cons_succ]
                        refine wpAnyH_done (by kernel_rfl) ?_ _
                        go_wp2_with fail
                        go_meet
                        case rel => exact ⟨wvz2.heap.size, rfl, blk_of_alloc wvz2 _, Kz2.out.size, Kz2.out.alloc Kz2.out.size _⟩
                      · go_simp
                        have hSz4 := blk_old hSz2 (.cells #[.int .i64 0, .int .i64 0, .string ⟨#[]⟩, .int .i64 0, .int .i64 0, .string ⟨#[]⟩, .int .i64 0, .int .i64 0, .slice none 0 0] 73)
                        have hpz4 : (wvz2.alloc (.cells #[.int .i64 0, .int .i64 0, .string ⟨#[]⟩, .int .i64 0, .int .i64 0, .string ⟨#[]⟩, .int .i64 0, .int .i64 0, .slice none 0 0] 73)).heap[wvz2.heap.size]? = _ := blk_of_alloc wvz2 (.cells #[.int .i64 0, .int .i64 0, .string ⟨#[]⟩, .int .i64 0, .int .i64 0, .string ⟨#[]⟩, .int .i64 0, .int .i64 0, .slice none 0 0] 73)
                        have Kz4 := Lib.hid (Kz2.out.alloc Kz2.out.size (.cells #[.int .i64 0, .int .i64 0, .string ⟨#[]⟩, .int .i64 0, .int .i64 0, .string ⟨#[]⟩, .int .i64 0, .int .i64 0, .slice none 0 0] 73))
                        have Kz4p : Hid (Wm.heap.size ≤ wvz2.heap.size) := Lib.hid Kz2.out.size
                        refine hK.out _ _ hSz4 (fun _ => ?_)
                        clear hK K
                        try simp only [Act.put, List.setIfInBounds_toArray, List.set_cons_zero, List.set_cons_succ]
                        refine wpAnyH_ready (rs := [10]) (by kernel_rfl) (by simp) (AllReadyH.cons rfl (fun K hK => ?_) AllReadyH.nil)
                        go_simp
                        refine hK.out _ _ hSz4 (fun _ => ?_)
                        clear hK K
                        try simp only [Act.put, List.setIfInBounds_toArray, List.set_cons_zero, List.set_cons_succ]
                        refine wpAnyH_ready (rs := [12]) (by kernel_rfl) (by simp) (AllReadyH.cons rfl (fun K hK => ?_) AllReadyH.nil)
                        go_simp
                        refine hK.out _ _ ?hs (fun _ => ?_)
                        case hs => exact blk_old hSz2 _
                        clear hK K
                        try simp only [Act.put, List.setIfInBounds_toArray, List.set_cons_zero, List.set_cons_succ]
                        refine wpAnyH_done (by kernel_rfl) ?_ _
                        go_wp2_with fail
                        go_meet
                        case rel => exact ⟨wvz2.heap.size, rfl, blk_of_alloc wvz2 _, Kz2.out.size, Kz2.out.alloc Kz2.out.size _⟩
                    · go_simp
                      have hSz5 := blk_old hSz1 (.cells #[.int .i64 0, .int .i64 0, .string ⟨#[]⟩, .int .i64 0, .int .i64 0, .string ⟨#[]⟩, .int .i64 0, .int .i64 0, .slice none 0 0] 73)
                      have hpz5 : (wvz1.alloc (.cells #[.int .i64 0, .int .i64 0, .string ⟨#[]⟩, .int .i64 0, .int .i64 0, .string ⟨#[]⟩, .int .i64 0, .int .i64 0, .slice none 0 0] 73)).heap[wvz1.heap.size]? = _ := blk_of_alloc wvz1 (.cells #[.int .i64 0, .int .i64 0, .string ⟨#[]⟩, .int .i64 0, .int .i64 0, .string ⟨#[]⟩, .int .i64 0, .int .i64 0, .slice none 0 0] 73)
                      have Kz5 := Lib.hid (Kz1.out.alloc Kz1.out.size (.cells #[.int .i64 0, .int .i64 0, .string ⟨#[]⟩, .int .i64 0, .int .i64 0, .string ⟨#[]⟩, .int .i64 0, .int .i64 0, .slice none 0 0] 73))
                      have Kz5p : Hid (Wm.heap.size ≤ wvz1.heap.size) := Lib.hid Kz1.out.size
                      refine hK.out _ _ hSz5 (fun _ => ?_)
                      clear hK K
                      try simp only [Act.put, List.setIfInBounds_toArray, List.set_cons_zero, List.set_cons_succ]
                      refine wpAnyH_ready (rs := [9]) (by kernel_rfl) (by simp) (AllReadyH.cons rfl (fun K hK => ?_) AllReadyH.nil)
                      go_simp
                      refine (HKB.out _).mono ?_
                      rintro e wvz6 ⟨rfl, hbvz6⟩
                      have hSz6 := blk_bels hbvz6 hSz5
                      have Kz6 := Lib.hid (Kz5.out.trans (hbvz6.mono Kz5.out.size))
                      have hpz6 := blk_bels hbvz6 hpz5
                      have Kz6p := Kz5p
                      clear hbvz6
                      refine hK.out _ _ hSz6 (fun _ => ?_)
                      clear hK K
                      try simp only [Act.put, List.setIfInBounds_toArray, List.set_cons_zero, List.set_cons_succ]
                      refine wpAnyH_ready (rs := [10]) (by kernel_rfl) (by simp) (AllReadyH.cons rfl (fun K hK => ?_) AllReadyH.nil)
                      go_simp
                      refine hK.out _ _ hSz6 (fun _ => ?_)
                      clear hK K
                      try simp only [Act.put, List.setIfInBounds_toArray, List.set_cons_zero, List.set_cons_succ]
                      refine wpAnyH_ready (rs := [12]) (by kernel_rfl) (by simp) (AllReadyH.cons rfl (fun K hK => ?_) AllReadyH.nil)
                      have hpc := fun j => cell_of_blk hpz6 j
                      have hpz := fun j => frozen_of_blk hpz6 j
                      go_simp
                      refine hK.out _ _ ?hs (fun _ => ?_)
                      case hs => exact keep9 (b := wvz1.heap.size) (by have := Kz6p.out; omega) hSz6 _ _ _ _ _ _ _ _ _
                      clear hK K
                      try simp only [Act.put, List.setIfInBounds_toArray, List.set_cons_zero, List.set_cons_succ]
                      refine wpAnyH_done (by kernel_rfl) ?_ _
                      go_wp2_with fail
                      go_meet
                      case rel => exact ⟨wvz1.heap.size, rfl, set9g rfl hpz6 _ _ _ _ _ _ _ _ _, Kz6p.out, below9 Kz6.out Kz6p.out _ _ _ _ _ _ _ _ _⟩
                  · go_simp
                    have hSz7 := blk_old hS0 (.cells #[.int .i64 0, .int .i64 0, .string ⟨#[]⟩, .int .i64 0, .int .i64 0, .string ⟨#[]⟩, .int .i64 0, .int .i64 0, .slice none 0 0] 73)
                    have hpz7 : (Wm.drew.alloc (.cells #[.int .i64 0, .int .i64 0, .string ⟨#[]⟩, .int .i64 0, .int .i64 0, .string ⟨#[]⟩, .int .i64 0, .int .i64 0, .slice none 0 0] 73)).heap[Wm.heap.size]? = _ := blk_of_alloc Wm.drew (.cells #[.int .i64 0, .int .i64 0, .string ⟨#[]⟩, .int .i64 0, .int .i64 0, .string ⟨#[]⟩, .int .i64 0, .int .i64 0, .slice none 0 0] 73)
                    have Kz7 := Lib.hid (K0.out.alloc K0.out.size (.cells #[.int .i64 0, .int .i64 0, .string ⟨#[]⟩, .int .i64 0, .int .i64 0, .string ⟨#[]⟩, .int .i64 0, .int .i64 0, .slice none 0 0] 73))
                    have Kz7p : Hid (Wm.heap.size ≤ Wm.heap.size) := Lib.hid K0.out.size
                    refine hK.out _ _ hSz7 (fun _ => ?_)
                    clear hK K
                    try simp only [Act.put, List.setIfInBounds_toArray, List.set_cons_zero, List.set_cons_succ]
                    refine wpAnyH_ready (rs := [6]) (by kernel_rfl) (by simp) (AllReadyH.cons rfl (fun K hK => ?_) AllReadyH.nil)
                    go_simp
                    refine (HKA.out _).mono ?_
                    rintro e wvz8 ⟨rfl, hbvz8⟩
                    have hSz8 := blk_bels hbvz8 hSz7
                    have Kz8 := Lib.hid (Kz7.out.trans (hbvz8.mono Kz7.out.size))
                    have hpz8 := blk_bels hbvz8 hpz7
                    have Kz8p := Kz7p
                    clear hbvz8
                    refine hK.out _ _ hSz8 (fun _ => ?_)
                    clear hK K
                    try simp only [Act.put, List.setIfInBounds_toArray, List.set_cons_zero, List.set_cons_succ]
                    refine wpAnyH_ready (rs := [9]) (by kernel_rfl) (by simp) (AllReadyH.cons rfl (fun K hK => ?_) AllReadyH.nil)
                    go_simp
                    refine (HKB.out _).mono ?_
                    rintro e wvz9 ⟨rfl, hbvz9⟩
                    have hSz9 := blk_bels hbvz9 hSz8
                    have Kz9 := Lib.hid (Kz8.out.trans (hbvz9.mono Kz8.out.size))
                    have hpz9 := blk_bels hbvz9 hpz8
                    have Kz9p := Kz8p
                    clear hbvz9
                    refine hK.out _ _ hSz9 (fun _ => ?_)
                    clear hK K
                    try simp only [Act.put, List.setIfInBounds_toArray, List.set_cons_zero, List.set_cons_succ]
                    refine wpAnyH_ready (rs := [10]) (by kernel_rfl) (by simp) (AllReadyH.cons rfl (fun K hK => ?_) AllReadyH.nil)
                    go_simp
                    refine hK.out _ _ hSz9 (fun _ => ?_)
                    clear hK K
                    try simp only [Act.put, List.setIfInBounds_toArray, List.set_cons_zero, List.set_cons_succ]
                    refine wpAnyH_ready (rs := [12]) (by kernel_rfl) (by simp) (AllReadyH.cons rfl (fun K hK => ?_) AllReadyH.nil)
                    have hpc := fun j => cell_of_blk hpz9 j
                    have hpz := fun j => frozen_of_blk hpz9 j
                    go_simp
                    refine hK.out _ _ ?hs (fun _ => ?_)
                    case hs => exact keep9 (b := Wm.heap.size) (by have := Kz9p.out; omega) hSz9 _ _ _ _ _ _ _ _ _
                    clear hK K
                    try simp only [Act.put, List.setIfInBounds_toArray, List.set_cons_zero, List.set_cons_succ]
                    refine wpAnyH_done (by kernel_rfl) ?_ _
                    go_wp2_with fail
                    go_meet
                    case rel => exact ⟨Wm.heap.size, rfl, set9g rfl hpz9 _ _ _ _ _ _ _ _ _, Kz9p.out, below9 Kz9.out Kz9p.out _ _ _ _ _ _ _ _ _⟩
                case rest =>
                  obtain ⟨P, rfl, gp, hPl, hbc⟩ := hcut
                  have c8 := (cell_of_blk (blk_bels hbc HM.out) 8).trans (show _ = some (.slice ra rn rc) from rfl)
                  have Gp := Lib.hid gp
                  have Hbc := Lib.hid hbc
                  have hPw : P < wc.heap.size := blk_lt gp
                  clear gp hbc HKA HKB
                  go_wp2_with fail
                  clear c8
                  go_loopw [112] (fun jv wr => ∃ j : Nat, j ≤ rn ∧ jv = .int .i64 j ∧ ∃ (ya : Option Addr) (yc : Nat), wr.heap[P]? = some (.cells #[.int .i64 mz, .int .i64 mn, .string a.u, .int .i64 a.s, .int .i64 a.k, .string b.u, .int .i64 b.s, .int .i64 b.k, .slice ya j yc] 73 (0, 0)) ∧ OwnRx wr wc.heap.size (.slice ya j yc) (refs.take j) ∧ Below Wm.heap.size Wm wr ∧ wc.heap.size ≤ wr.heap.size) (fun jv _ => rn - (intOf jv).toNat)
                  case atStart => exact ⟨0, Nat.zero_le _, rfl, none, 0, Gp.out, by rw [List.take_zero]; exact World.ownsRow_nil _ _ _ _, Hbc.out, Nat.le_refl _⟩
                  case round =>
                    obtain ⟨wz, rfl⟩ : ∃ wz : World, wz = wr := ⟨_, rfl⟩
                    obtain ⟨j, hj, rfl, ya, yc, gp, hown, hbz, hsz⟩ := hrel
                    by_cases hjr : j < rn
                    · obtain ⟨rb, off5, rfl, hrow⟩ := Hrx.out (by rw [← List.length_pos_iff, ← Hrn.out]; omega)
                      obtain ⟨⟨x, y⟩, hxk⟩ : ∃ x, refs[j]? = some x := ⟨_, List.getElem?_eq_getElem (by rw [← Hrn.out]; exact hjr)⟩
                      have r0 := hrow j _ hxk 0 _ rfl
                      have r1 := hrow j _ hxk 1 _ rfl
                      have hqm := HAm.out.trans (hbz.mono HAm.out.size)
                      have q0 := (hqm.cell (block_lt_of_cell r0)).trans r0
                      have q1 := (hqm.cell (block_lt_of_cell r1)).trans r1
                      rw [Nat.add_zero] at q0
                      dsimp only at q0 q1
                      have hb5 : Below wz.heap.size wz (wz.alloc (.cells #[.int .i64 x, .int .i64 y] 75)) := (Below.refl _ _).alloc (Nat.le_refl _) _
                      have hp5 := blk_old gp (.cells #[.int .i64 x, .int .i64 y] 75)
                      have p8 := (cell_of_blk hp5 8).trans (show _ = some (.slice ya j yc) from rfl)
                      have hkl : j = (refs.take j).length := by rw [List.length_take, ← Hrn.out]; omega
                      obtain ⟨xb2, xc2, w2, hrun, hown2, hg2⟩ := push_rx (wz.alloc (.cells #[.int .i64 x, .int .i64 y] 75)) wc.heap.size ya j yc (refs.take j) x y hkl (own_below hown hb5) (by omega) (Nat.le_trans hsz hb5.size)
                      have hlow : ∀ g, (Value.slice ya j yc).ownBlock = some g → wc.heap.size ≤ g := fun g e => (hown.lt g e).1
                      have hbA : Below wz.heap.size wz ((wz.alloc (.cells #[.int .i64 x, .int .i64 y] 75)).alloc (.cells #[.int .i64 x, .int .i64 y] 76)) := hb5.alloc hb5.size _
                      have gp2 : w2.heap[P]? = _ := (hg2.block P (blk_lt (blk_bels hbA gp)) (fun e => by have := hlow P e.symm; omega)).trans (blk_bels hbA gp)
                      have pz := fun j => frozen_of_blk gp2 j
                      have pc := fun j => cell_of_blk gp2 j
                      have hbw2 : Below Wm.heap.size Wm w2 := (hbz.trans (hbA.mono hbz.size)).grown hg2 (Nat.le_trans hbz.size hbA.size) (fun g e => by have := hlow g e; have := Hbc.out.size; omega)
                      have HF : Hid ((w2.setCell ⟨P, 8, none⟩ (.slice xb2 (j + 1) xc2)).heap[P]? = some (.cells #[.int .i64 mz, .int .i64 mn, .string a.u, .int .i64 a.s, .int .i64 a.k, .string b.u, .int .i64 b.s, .int .i64 b.k, .slice xb2 (j + 1) xc2] 73 (0, 0)) ∧ OwnRx (w2.setCell ⟨P, 8, none⟩ (.slice xb2 (j + 1) xc2)) wc.heap.size (.slice xb2 (j + 1) xc2) (refs.take (j + 1)) ∧ Below Wm.heap.size Wm (w2.setCell ⟨P, 8, none⟩ (.slice xb2 (j + 1) xc2)) ∧ wc.heap.size ≤ (w2.setCell ⟨P, 8, none⟩ (.slice xb2 (j + 1) xc2)).heap.size) := by
                        refine Lib.hid ⟨(blk_set gp2).trans rfl, ?_, hbw2.setCell hPl _, by simp only [World.size_setCell]; exact Nat.le_trans (Nat.le_trans hsz hbA.size) hg2.size⟩
                        have hc2 := own_far hown2 (grown_set w2 P 8 (.slice xb2 (j + 1) xc2)) (fun r e => by cases e; exact hPw)
                        rw [List.take_add_one, hxk]
                        exact hc2
                      simp only [World.size_alloc] at hrun
                      clear hown hrow r0 r1 hxk hown2 hg2 hlow hbA gp2 hbw2 hb5 hp5 gp hbz hkl hqm
                      go_wp2_with (at_builtin; first | (refine wpList_val rfl _ _ (run_append_op (.tmp 117) (.tmp 123) 71 71 rfl rfl rfl hrun) ?_) | (refine wpList_val rfl _ _ (run_append_op (.tmp 117) (.tmp 123) 71 71 rfl (by simp) (by simp) hrun) ?_))
                      go_roundw
                      case rel => exact ⟨j + 1, by omega, by go_num, xb2, xc2, HF.out⟩
                      case measure => simp [intOf]; omega
                    · obtain rfl : j = rn := by omega
                      rw [Hrn.out, List.take_length] at hown
                      have hqz := HAm.out.trans (hbz.mono HAm.out.size)
                      have hRz := (Hr.out.below hqz).below (show Below wz.heap.size wz wz.drew from (Below.refl _ _).drew)
                      have hownR : OwnRx wz.drew wl.heap.size (.slice ya refs.length yc) refs := own_below (own_mono hown (Nat.le_trans Hr.out.kept.size (Nat.le_trans HAm.out.size Hbc.out.size))) ((Below.refl _ _).drew)
                      have hwl : w.heap.size + 1 + 1 < wl.heap.size := blk_lt Hx.out.cx
                      have hrl := own_n hRz.own
                      rw [← Hrn.out] at hownR
                      obtain ⟨za, zc, w2, hrun, hownM, hgM⟩ := push_m15 wz.drew wl.heap.size xa i xc rows (⟨mz, mn, a, b, refs⟩, .slice ya j yc) hRz.own (mrC_one' (isSl_own rfC_len hownR)) (by omega) hRz.kept.size [.int .i64 mz, .int .i64 mn, .string a.u, .int .i64 a.s, .int .i64 a.k, .string b.u, .int .i64 b.s, .int .i64 b.k, .slice ya j yc] rfl
                      have HF0 := RwI.push hRz hn4 hwl hownR He9.out hownM hgM
                      have HF := Lib.hid HF0.1
                      have hxb2 := HF0.2
                      have hS : wz.drew.heap[P]? = some (.cells #[.int .i64 mz, .int .i64 mn, .string a.u, .int .i64 a.s, .int .i64 a.k, .string b.u, .int .i64 b.s, .int .i64 b.k, .slice ya j yc] 73 (0, 0)) := gp
                      have hx0 : wz.drew.heap[w.heap.size + 1 + 1]? = some (.cells (X.upd n (.slice xa i xc) rows).cells 68 (0, 0)) := hRz.cx
                      have hPr : P < wl.heap.size ∨ wl.heap.size ≤ P := Nat.lt_or_ge _ _
                      have hSA := blk_old hS (.cells #[.int .i64 mz, .int .i64 mn, .string a.u, .int .i64 a.s, .int .i64 a.k, .string b.u, .int .i64 b.s, .int .i64 b.k, .slice ya j yc] 73)
                      have hPne : ∀ g, (Value.slice xa i xc).ownBlock = some g → g < wq.heap.size := fun g e => (Hr.out.own.lt g e).2
                      have hSP2 : w2.heap[P]? = _ := (hgM.block P (blk_lt hSA) (fun e => by have := hPne P e.symm; have := HAm.out.size; omega)).trans hSA
                      have hSP3 : (w2.setCell ⟨w.heap.size + 1 + 1, n, none⟩ (.slice za (i + 1) zc)).heap[P]? = _ := (Below.heap_setCell _ ⟨w.heap.size + 1 + 1, n, none⟩ _ _ (by show P ≠ w.heap.size + 1 + 1; have := Hr.out.kept.size; have := HAm.out.size; omega)).trans hSP2
                      clear hown hqz hownR hownM hgM HF0 hRz hPr hSA hPne gp hrl
                      go_wp2_with fail
                      refine wp_region_held_drew (S := fun V => V.heap[P]? = some (.cells #[.int .i64 mz, .int .i64 mn, .string a.u, .int .i64 a.s, .int .i64 a.k, .string b.u, .int .i64 b.s, .int .i64 b.k, .slice ya j yc] 73 (0, 0))) (by kernel_rfl) hS (fun hS0 => ?_)
                      refine wpAnyH_take (i := 0) (oi := { dst := some 127, op := Op.move (Operand.tmp 6), type := 27, pos := "law.go:55", after := #[], guard := none }) (v := ?_) rfl (by kernel_rfl) (by kernel_rfl) (by kernel_rfl) (fun _ _ _ h => h) (Or.inl ⟨by rfl, ?hy9⟩) hS0 ?_
                      case hy9 => (intro V hSw; (try dsimp only at hSw); clear hSw; go_simp; try with_reducible rfl)
                      try simp only [Act.put, List.setIfInBounds_toArray, List.set_cons_zero, List.set_cons_succ]
                      refine wpAnyH_take (i := 1) (oi := { dst := some 128, op := Op.move (Operand.tmp 13), type := 3, pos := "law.go:55", after := #[], guard := none }) (v := ?_) rfl (by kernel_rfl) (by kernel_rfl) (by kernel_rfl) (fun _ _ _ h => h) (Or.inl ⟨by rfl, ?hy10⟩) hS0 ?_
                      case hy10 => (intro V hSw; (try dsimp only at hSw); clear hSw; go_simp; try with_reducible rfl)
                      try simp only [Act.put, List.setIfInBounds_toArray, List.set_cons_zero, List.set_cons_succ]
                      refine wpAnyH_take (i := 2) (oi := { dst := some 129, op := Op.move (Operand.tmp 6), type := 27, pos := "law.go:55", after := #[], guard := none }) (v := ?_) rfl (by kernel_rfl) (by kernel_rfl) (by kernel_rfl) (fun _ _ _ h => h) (Or.inl ⟨by rfl, ?hy11⟩) hS0 ?_
                      case hy11 => (intro V hSw; (try dsimp only at hSw); clear hSw; go_simp; try with_reducible rfl)
                      try simp only [Act.put, List.setIfInBounds_toArray, List.set_cons_zero, List.set_cons_succ]
                      refine wpAnyH_take (i := 3) (oi := { dst := some 130, op := Op.move (Operand.tmp 13), type := 3, pos := "law.go:55", after := #[], guard := none }) (v := ?_) rfl (by kernel_rfl) (by kernel_rfl) (by kernel_rfl) (fun _ _ _ h => h) (Or.inl ⟨by rfl, ?hy12⟩) hS0 ?_
                      case hy12 => (intro V hSw; (try dsimp only at hSw); clear hSw; go_simp; try with_reducible rfl)
                      try simp only [Act.put, List.setIfInBounds_toArray, List.set_cons_zero, List.set_cons_succ]
                      refine wpAnyH_take (i := 4) (oi := { dst := some 131, op := Op.nilCheck (Operand.tmp 129), type := 0, pos := "law.go:55", after := #[{ on := 2, ground := Ground.data }], guard := none }) (v := ?_) rfl (by kernel_rfl) (by kernel_rfl) (by kernel_rfl) (fun _ _ _ h => h) (Or.inl ⟨by rfl, ?hy13⟩) hS0 ?_
                      case hy13 => (intro V hSw; (try dsimp only at hSw); clear hSw; go_simp; try with_reducible rfl)
                      try simp only [Act.put, List.setIfInBounds_toArray, List.set_cons_zero, List.set_cons_succ]
                      refine wpAnyH_take (i := 5) (oi := { dst := some 132, op := Op.fieldAddr 68 (Operand.tmp 131) 0, type := 0, pos := "law.go:55", after := #[{ on := 4, ground := Ground.data }], guard := none }) (v := ?_) rfl (by kernel_rfl) (by kernel_rfl) (by kernel_rfl) (fun _ _ _ h => h) (Or.inl ⟨by rfl, ?hy14⟩) hS0 ?_
                      case hy14 => (intro V hSw; (try dsimp only at hSw); clear hSw; go_simp; try with_reducible rfl)
                      try simp only [Act.put, List.setIfInBounds_toArray, List.set_cons_zero, List.set_cons_succ]
                      refine wpAnyH_take (i := 6) (oi := { dst := some 133, op := Op.indexAddr 66 (Operand.tmp 132) (Operand.tmp 130), type := 0, pos := "law.go:55", after := #[{ on := 5, ground := Ground.data }, { on := 3, ground := Ground.data }], guard := none }) (v := ?_) rfl (by kernel_rfl) (by kernel_rfl) (by kernel_rfl) (fun _ _ _ h => h) (Or.inl ⟨by rfl, ?hy15⟩) hS0 ?_
                      case hy15 => (intro V hSw; (try dsimp only at hSw); clear hSw; go_simp; try with_reducible rfl)
                      try simp only [Act.put, List.setIfInBounds_toArray, List.set_cons_zero, List.set_cons_succ]
                      refine wpAnyH_take (i := 8) (oi := { dst := some 135, op := Op.load 73 (Operand.tmp 17), type := 73, pos := "law.go:55", after := #[], guard := none }) (v := ?_) rfl (by kernel_rfl) (by kernel_rfl) (by kernel_rfl) (fun _ _ _ h => h) (Or.inl ⟨by rfl, ?hy16⟩) hS0 ?_
                      case hy16 => (intro V hSw; (try dsimp only at hSw); have hcw := fun j => cell_of_blk hSw j; clear hSw; go_simp; try with_reducible rfl)
                      try simp only [Act.put, List.setIfInBounds_toArray, List.set_cons_zero, List.set_cons_succ]
                      refine wpAnyH_take (i := 11) (oi := { dst := some 138, op := Op.nilCheck (Operand.tmp 127), type := 0, pos := "law.go:55", after := #[{ on := 0, ground := Ground.data }], guard := none }) (v := ?_) rfl (by kernel_rfl) (by kernel_rfl) (by kernel_rfl) (fun _ _ _ h => h) (Or.inl ⟨by rfl, ?hy17⟩) hS0 ?_
                      case hy17 => (intro V hSw; (try dsimp only at hSw); clear hSw; go_simp; try with_reducible rfl)
                      try simp only [Act.put, List.setIfInBounds_toArray, List.set_cons_zero, List.set_cons_succ]
                      refine wpAnyH_take (i := 12) (oi := { dst := some 139, op := Op.fieldAddr 68 (Operand.tmp 138) 0, type := 0, pos := "law.go:55", after := #[{ on := 11, ground := Ground.data }], guard := none }) (v := ?_) rfl (by kernel_rfl) (by kernel_rfl) (by kernel_rfl) (fun _ _ _ h => h) (Or.inl ⟨by rfl, ?hy18⟩) hS0 ?_
                      case hy18 => (intro V hSw; (try dsimp only at hSw); clear hSw; go_simp; try with_reducible rfl)
                      try simp only [Act.put, List.setIfInBounds_toArray, List.set_cons_zero, List.set_cons_succ]
                      refine wpAnyH_ready (rs := [7, 9]) (by kernel_rfl) (by simp) (AllReadyH.cons rfl (fun K hK => ?_) (AllReadyH.cons rfl (fun K hK => ?_) AllReadyH.nil))
                      · have hxn : wz.drew.cell? ⟨w.heap.size + 1 + 1, n, none⟩ = some (.slice xa i xc) := (cell_of_blk hx0 n).trans (by rw [vn_cell _ hn4, upd_v, if_pos rfl])
                        have hxn0 : wz.cell? ⟨w.heap.size + 1 + 1, n, none⟩ = some (.slice xa i xc) := (cell_of_blk (w := wz) hx0 n).trans (by rw [vn_cell _ hn4, upd_v, if_pos rfl])
                        have hxl : w.heap.size + 1 + 1 < wz.heap.size := blk_lt (w := wz) hx0
                        go_simp
                        clear hxn hxn0 hxl
                        refine hK.out _ _ hS0 (fun _ => ?_)
                        clear hK K
                        try simp only [Act.put, List.setIfInBounds_toArray, List.set_cons_zero, List.set_cons_succ]
                        refine wpAnyH_ready (rs := [9]) (by kernel_rfl) (by simp) (AllReadyH.cons rfl (fun K hK => ?_) AllReadyH.nil)
                        go_simp
                        have hS19 := blk_old hS0 (.cells #[.int .i64 mz, .int .i64 mn, .string a.u, .int .i64 a.s, .int .i64 a.k, .string b.u, .int .i64 b.s, .int .i64 b.k, .slice ya j yc] 73)
                        have hx19 := blk_old hx0 (.cells #[.int .i64 mz, .int .i64 mn, .string a.u, .int .i64 a.s, .int .i64 a.k, .string b.u, .int .i64 b.s, .int .i64 b.k, .slice ya j yc] 73)
                        refine hK.out _ _ hS19 (fun _ => ?_)
                        clear hK K
                        try simp only [Act.put, List.setIfInBounds_toArray, List.set_cons_zero, List.set_cons_succ]
                        refine wpAnyH_ready (rs := [10]) (by kernel_rfl) (by simp) (AllReadyH.cons rfl (fun K hK => ?_) AllReadyH.nil)
                        refine wp_append_run (.tmp 134) (.tmp 136) 65 rfl _ _ _ _ rfl rfl hrun ?_
                        refine hK.out _ _ hSP2 (fun _ => ?_)
                        clear hK K
                        try simp only [Act.put, List.setIfInBounds_toArray, List.set_cons_zero, List.set_cons_succ]
                        refine wpAnyH_take (i := 13) (oi := { dst := some 140, op := Op.indexAddr 66 (Operand.tmp 139) (Operand.tmp 128), type := 0, pos := "law.go:55", after := #[{ on := 12, ground := Ground.data }, { on := 1, ground := Ground.data }, { on := 0, ground := Ground.phase }, { on := 1, ground := Ground.phase }, { on := 2, ground := Ground.phase }, { on := 3, ground := Ground.phase }, { on := 4, ground := Ground.phase }, { on := 5, ground := Ground.phase }, { on := 6, ground := Ground.phase }, { on := 7, ground := Ground.phase }, { on := 8, ground := Ground.phase }, { on := 9, ground := Ground.phase }, { on := 10, ground := Ground.phase }], guard := none }) (v := ?_) rfl (by kernel_rfl) (by kernel_rfl) (by kernel_rfl) (fun _ _ _ h => h) (Or.inl ⟨by rfl, ?hy20⟩) hSP2 ?_
                        case hy20 => (intro V hSw; (try dsimp only at hSw); clear hSw; go_simp; try with_reducible rfl)
                        try simp only [Act.put, List.setIfInBounds_toArray, List.set_cons_zero, List.set_cons_succ]
                        refine wpAnyH_ready (rs := [14]) (by kernel_rfl) (by simp) (AllReadyH.cons rfl (fun K hK => ?_) AllReadyH.nil)
                        have hpc := (cell_of_blk hxb2 n).trans (by rw [vn_cell _ hn4])
                        have hpz := frozen_of_blk hxb2 n
                        go_simp
                        clear hpc hpz
                        refine hK.out _ _ hSP3 (fun _ => ?_)
                        clear hK K
                        try simp only [Act.put, List.setIfInBounds_toArray, List.set_cons_zero, List.set_cons_succ]
                        refine wpAnyH_done (by kernel_rfl) ?_ _
                        go_wp2_with fail
                        go_roundw
                        case rel => exact ⟨i + 1, by omega, by go_num, za, zc, _, HF.out⟩
                        case measure => simp [intOf]; omega
                      · go_simp
                        have hS21 := blk_old hS0 (.cells #[.int .i64 mz, .int .i64 mn, .string a.u, .int .i64 a.s, .int .i64 a.k, .string b.u, .int .i64 b.s, .int .i64 b.k, .slice ya j yc] 73)
                        have hx21 := blk_old hx0 (.cells #[.int .i64 mz, .int .i64 mn, .string a.u, .int .i64 a.s, .int .i64 a.k, .string b.u, .int .i64 b.s, .int .i64 b.k, .slice ya j yc] 73)
                        refine hK.out _ _ hS21 (fun _ => ?_)
                        clear hK K
                        try simp only [Act.put, List.setIfInBounds_toArray, List.set_cons_zero, List.set_cons_succ]
                        refine wpAnyH_ready (rs := [7]) (by kernel_rfl) (by simp) (AllReadyH.cons rfl (fun K hK => ?_) AllReadyH.nil)
                        have hxn : (wz.drew.alloc (.cells #[.int .i64 mz, .int .i64 mn, .string a.u, .int .i64 a.s, .int .i64 a.k, .string b.u, .int .i64 b.s, .int .i64 b.k, .slice ya j yc] 73)).cell? ⟨w.heap.size + 1 + 1, n, none⟩ = some (.slice xa i xc) := (cell_of_blk hx21 n).trans (by rw [vn_cell _ hn4, upd_v, if_pos rfl])
                        have hxn0 : wz.cell? ⟨w.heap.size + 1 + 1, n, none⟩ = some (.slice xa i xc) := (cell_of_blk (w := wz) hx0 n).trans (by rw [vn_cell _ hn4, upd_v, if_pos rfl])
                        have hxl : w.heap.size + 1 + 1 < wz.heap.size := blk_lt (w := wz) hx0
                        go_simp
                        clear hxn hxn0 hxl
                        refine hK.out _ _ hS21 (fun _ => ?_)
                        clear hK K
                        try simp only [Act.put, List.setIfInBounds_toArray, List.set_cons_zero, List.set_cons_succ]
                        refine wpAnyH_ready (rs := [10]) (by kernel_rfl) (by simp) (AllReadyH.cons rfl (fun K hK => ?_) AllReadyH.nil)
                        refine wp_append_run (.tmp 134) (.tmp 136) 65 rfl _ _ _ _ rfl rfl hrun ?_
                        refine hK.out _ _ hSP2 (fun _ => ?_)
                        clear hK K
                        try simp only [Act.put, List.setIfInBounds_toArray, List.set_cons_zero, List.set_cons_succ]
                        refine wpAnyH_take (i := 13) (oi := { dst := some 140, op := Op.indexAddr 66 (Operand.tmp 139) (Operand.tmp 128), type := 0, pos := "law.go:55", after := #[{ on := 12, ground := Ground.data }, { on := 1, ground := Ground.data }, { on := 0, ground := Ground.phase }, { on := 1, ground := Ground.phase }, { on := 2, ground := Ground.phase }, { on := 3, ground := Ground.phase }, { on := 4, ground := Ground.phase }, { on := 5, ground := Ground.phase }, { on := 6, ground := Ground.phase }, { on := 7, ground := Ground.phase }, { on := 8, ground := Ground.phase }, { on := 9, ground := Ground.phase }, { on := 10, ground := Ground.phase }], guard := none }) (v := ?_) rfl (by kernel_rfl) (by kernel_rfl) (by kernel_rfl) (fun _ _ _ h => h) (Or.inl ⟨by rfl, ?hy22⟩) hSP2 ?_
                        case hy22 => (intro V hSw; (try dsimp only at hSw); clear hSw; go_simp; try with_reducible rfl)
                        try simp only [Act.put, List.setIfInBounds_toArray, List.set_cons_zero, List.set_cons_succ]
                        refine wpAnyH_ready (rs := [14]) (by kernel_rfl) (by simp) (AllReadyH.cons rfl (fun K hK => ?_) AllReadyH.nil)
                        have hpc := (cell_of_blk hxb2 n).trans (by rw [vn_cell _ hn4])
                        have hpz := frozen_of_blk hxb2 n
                        go_simp
                        clear hpc hpz
                        refine hK.out _ _ hSP3 (fun _ => ?_)
                        clear hK K
                        try simp only [Act.put, List.setIfInBounds_toArray, List.set_cons_zero, List.set_cons_succ]
                        refine wpAnyH_done (by kernel_rfl) ?_ _
                        go_wp2_with fail
                        go_roundw
                        case rel => exact ⟨i + 1, by omega, by go_num, za, zc, _, HF.out⟩
                        case measure => simp [intOf]; omega
              · obtain rfl : i = mm := by omega
                have HXn := Lib.hid (RwI.end (i := i) Hx.out hn4 (Hmm.out.trans (by rw [Hlu.out])) (by rw [← Hlu.out]; exact Hr.out))
                clear hs
                go_wp2_with fail
                go_roundw
                case rel => exact ⟨n + 1, by omega, by go_num, _, HXn.out⟩
                case measure => simp [intOf]; omega
          · obtain rfl : n = 4 := by omega
            have c0' := (cell_of_blk Hx.out.cv 0).trans (show _ = some (.slice a0 n0 c0) from (vn_cell U (by omega)).trans (by rw [E0.out]))
            have c1' := (cell_of_blk Hx.out.cv 1).trans (show _ = some (.slice a1 n1 c1) from (vn_cell U (by omega)).trans (by rw [E1.out]))
            have c2' := (cell_of_blk Hx.out.cv 2).trans (show _ = some (.slice a2 n2 c2) from (vn_cell U (by omega)).trans (by rw [E2.out]))
            have c3' := (cell_of_blk Hx.out.cv 3).trans (show _ = some (.slice a3 n3 c3) from (vn_cell U (by omega)).trans (by rw [E3.out]))
            have v0 := (cell_of_blk Hx.out.res 0).trans (show _ = some (.slice none 0 0) from rfl)
            have v1 := (cell_of_blk Hx.out.res 1).trans (show _ = some (.slice none 0 0) from rfl)
            have v2 := (cell_of_blk Hx.out.res 2).trans (show _ = some (.slice none 0 0) from rfl)
            have v3 := (cell_of_blk Hx.out.res 3).trans (show _ = some (.slice none 0 0) from rfl)
            have r0 := frozen_of_blk Hx.out.res 0
            have r1 := frozen_of_blk Hx.out.res 1
            have r2 := frozen_of_blk Hx.out.res 2
            have r3 := frozen_of_blk Hx.out.res 3
            have hF := Hx.out.final HeU.out
            rw [E0.out, E1.out, E2.out, E3.out] at hF
            have HF := Lib.hid hF
            clear hF
            go_wp2_with fail
            refine bodyPost_ret (results_row_slot3 Tryd.results8 _ _ w.heap.size 26 _ (0, 0) _ _ _ rfl rfl rfl HF.out.1 Tryd.underlying26 rfl vnInfo) rfl ?_
            exact Lib.hid (pkOut_yes Hsm.out HF.out.2)
end Go.Proofs.YtcmndnglmpkpdaaDoor.Tithe
