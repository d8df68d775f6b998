/- THE LAW LevelsPlays: walked. -/
import Derived.Test.YtjefpogeknbelaaLevPlay
import Derived.Test.YtjefpogeknbelaaLevEqual
import Derived.Test.YtjefpogeknbelaaLevAwake
namespace Go.Proofs.Ytjefpogeknbelaa.Tithe
open Go.RowKit Go.Sort Go.Shelf
set_option linter.unusedVariables false
set_option linter.unusedSimpArgs false
set_option maxRecDepth 100000
theorem isVn_agg {W : World} {U : Vn} (h : IsVn W U) : ∃ a0 n0 c0 a1 n1 c1 a2 n2 c2 a3 n3 c3, U.cells = #[.slice a0 n0 c0, .slice a1 n1 c1, .slice a2 n2 c2, .slice a3 n3 c3] := by
  obtain ⟨a0, n0, c0, a1, n1, c1, a2, n2, c2, a3, n3, c3, e0, e1, e2, e3⟩ := isVn_sl h
  exact ⟨a0, n0, c0, a1, n1, c1, a2, n2, c2, a3, n3, c3, by unfold Vn.cells; rw [e0, e1, e2, e3]⟩
theorem edIn_bel {w W : World} {e : Ed} (h : EdIn w e) (hb : Below w.heap.size w W) : EdIn W e := ⟨isPl_bel h.1 hb, h.2.below hb⟩
theorem isEd_bel {w W : World} {v : Value} {l : List Ed} (h : IsEd w v l) (hb : Below w.heap.size w W) : IsEd W v l := ⟨h.1.below hb, fun r hr => edIn_bel (h.2 r hr) hb⟩
attribute [local go_sem] Oper.semAt_some
set_option maxHeartbeats 3200000 in
theorem levelsPlays_walk (v : Value) (l : List Ed) (w : World) (h : IsEd w v l) :
    Calls Try.prog 7 #[v] w fun e w' => e = .returned (.bool true) ∧ Below w.heap.size w w' := by
  have Hs := Lib.hid (small_any v l w h)
  have Hi := Lib.hid h
  cases hsm : smallB l with
  | false =>
    rw [hsm] at Hs
    clear hsm h
    go_enter Try.func7, Try.ntmps7
    go_wp2_with fail
    refine Hs.out.mono ?_
    rintro e w1 ⟨rfl, hb⟩
    have Hb := Lib.hid hb
    clear hb
    go_wp2_with fail
    refine (awake15_any _).mono ?_
    rintro e w2 ⟨rfl, hb2⟩
    have Hb2 := Lib.hid (Hb.out.trans (hb2.mono Hb.out.size))
    clear hb2
    go_wp2
    go_ret
    exact ⟨rfl, Hb2.out⟩
  | true =>
    rw [hsm] at Hs
    have Hsm := Lib.hid hsm
    clear hsm h
    go_enter Try.func7, Try.ntmps7
    go_wp2_with fail
    refine Hs.out.mono ?_
    rintro e w1 ⟨rfl, hb⟩
    have Hb := Lib.hid hb
    have Hi1 := Lib.hid (isEd_bel Hi.out hb)
    clear hb
    go_wp2_with fail
    refine (play_any v l w1 Hi1.out Hsm.out).mono ?_
    rintro e w2 q
    obtain ⟨U, X, xb, rfl, hxb, hU, hX, heU, heX, hsx, hb2⟩ := q.out
    have Hb2 := Lib.hid (Hb.out.trans (hb2.mono Hb.out.size))
    obtain ⟨a0, n0, c0, a1, n1, c1, a2, n2, c2, a3, n3, c3, hc⟩ := isVn_agg hU
    have hP := playP_ok Hsm.out l.length (Nat.le_refl _)
    have h40 := (smallB_ed Hsm.out).2
    have hT := lvS_tabs hP.1 heU
    have HC := Lib.hid (fun (A : World) (hA : Below w2.heap.size w2 A) => vcheck_any U A (hU.below hA) (fun p hp => by have := (hT.2 p hp).1; omega))
    rw [lvE_ver hP.2 heU, hc] at HC
    have HE := Lib.hid (fun (A : World) (hA : Below w2.heap.size w2 A) => vequal_any U U 4 A (hU.below hA) (hU.below hA) (Nat.le_refl _) (fun _ _ => rfl) (fun h => absurd h (by omega)))
    rw [hc] at HE ⊢
    have HA : Hid (Below w2.heap.size w2 (w2.alloc (.cells #[.slice a0 n0 c0, .slice a1 n1 c1, .slice a2 n2 c2, .slice a3 n3 c3] 48))) := Lib.hid ((Below.refl _ _).alloc (Nat.le_refl _) _)
    have HM := Lib.hid (blk_of_alloc w2 (.cells #[.slice a0 n0 c0, .slice a1 n1 c1, .slice a2 n2 c2, .slice a3 n3 c3] 48))
    clear hxb hU hX heU heX hsx hb2 hc hP h40 hT q
    go_wp2_with fail
    refine (HC.out _ HA.out).mono ?_
    rintro e w3 ⟨rfl, hb3⟩
    have HA3 := Lib.hid (HA.out.trans (hb3.mono HA.out.size))
    have HM3 := Lib.hid (blk_bels hb3 HM.out)
    have z0 := (cell_of_blk HM3.out 0).trans (show _ = some (.slice a0 n0 c0) from rfl)
    have z1 := (cell_of_blk HM3.out 1).trans (show _ = some (.slice a1 n1 c1) from rfl)
    have z2 := (cell_of_blk HM3.out 2).trans (show _ = some (.slice a2 n2 c2) from rfl)
    have z3 := (cell_of_blk HM3.out 3).trans (show _ = some (.slice a3 n3 c3) from rfl)
    clear hb3
    unfold chkV
    go_wp2_with fail
    refine (HE.out _ HA3.out).mono ?_
    rintro e w4 ⟨rfl, hb4⟩
    have HA4 := Lib.hid (HA3.out.trans (hb4.mono HA3.out.size))
    clear hb4 z0 z1 z2 z3
    go_wp2_with fail
    refine (awake15_any _).mono ?_
    rintro e w5 ⟨rfl, hb5⟩
    have HA5 := Lib.hid (HA4.out.trans (hb5.mono HA4.out.size))
    clear hb5
    go_wp2
    go_ret
    exact ⟨rfl, Hb2.out.trans (HA5.out.mono Hb2.out.size)⟩
end Go.Proofs.Ytjefpogeknbelaa.Tithe
