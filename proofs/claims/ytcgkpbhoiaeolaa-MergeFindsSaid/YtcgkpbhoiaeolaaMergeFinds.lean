/- The law MergeFinds, walked. -/
import Derived.Test.YtcgkpbhoiaeolaaMerAwake
namespace Go.Proofs.Ytcgkpbhoiaeolaa.Tithe
open Go.RowKit Go.Sort Go.Shelf
set_option linter.unusedVariables false
theorem mergeFinds_walk (v : Value) (l : List It) (K : Int) (w : World) (h : IsIt w v l) (hw : (Lit.int .i64 K).wf = true) :
    Calls Try.prog 4 #[v, .int .i64 K] w fun e w' => e = .returned (.bool true) ∧ Below w.heap.size w w' := by
  have H := Lib.hid h
  obtain ⟨a, c, rfl, -, -, -⟩ := id h
  obtain ⟨-, hc, hm, -⟩ := h.at
  clear h hw
  by_cases h100 : (100 : Int) < (l.length : Int)
  · go_enter Try.func4, Try.ntmps4
    go_wp2_with fail
    refine (awake_any w).mono ?_
    rintro e w' ⟨rfl, hb⟩
    go_wp2
    go_ret
    exact ⟨rfl, hb⟩
  · cases hr : runB l with
    | false =>
      have hrun := run_any _ l w H.out
      rw [hr] at hrun
      have Hrun := Lib.hid hrun
      clear hr hrun
      go_enter Try.func4, Try.ntmps4
      go_wp2_with fail
      refine Hrun.out.mono ?_
      rintro e w' ⟨rfl, nq, rfl⟩
      go_wp2_with fail
      refine (awake_any _).mono ?_
      rintro e w' ⟨rfl, hb⟩
      go_wp2
      go_ret
      exact ⟨rfl, (below_drewN (Below.refl _ _) nq).trans hb⟩
    | true =>
      have hrun := run_any _ l w H.out
      rw [hr] at hrun
      have Hrun := Lib.hid hrun
      have Hr := Lib.hid hr
      have hl : l.length ≤ 1000000 := by omega
      clear hr hrun
      go_enter Try.func4, Try.ntmps4
      go_wp2_with fail
      refine Hrun.out.mono ?_
      rintro e w' ⟨rfl, nq, rfl⟩
      have hbn : Below w.heap.size w (w.drewN nq) := below_drewN (Below.refl _ _) nq
      have Hbn := Lib.hid hbn
      clear hbn
      go_wp2_with fail
      refine (items_any _ l _ (H.out.below Hbn.out) hl).mono ?_
      rintro e w2 ⟨x, rfl, ho, hb2⟩
      have hit := isIt_own ho
      obtain ⟨xa, xc, rfl⟩ := own_slice ho
      have hb2' : Below w.heap.size w w2 := Hbn.out.trans hb2
      have Hb2 := Lib.hid hb2'
      have hw2 := hb2'.size
      have Hfind := Lib.hid (find_any _ l K w2 hit hl Hr.out)
      clear ho hit hb2 hb2'
      go_wp2_with fail
      refine Hfind.out.mono ?_
      rintro e w3 ⟨rfl, hb3⟩
      have hb3' : Below w.heap.size w w3 := Hb2.out.trans (hb3.mono hw2)
      have Hb3 := Lib.hid hb3'
      have hw3 := hb3'.size
      have Hceil := Lib.hid (refceil_any _ l K w3 (H.out.below hb3'))
      have Hhas := Lib.hid (refhas_any _ l K w3 (H.out.below hb3'))
      clear hb3 hb3' Hfind
      generalize ceilL l K = cl at *
      generalize hasK l K = A at *
      have t1 : ((cl : Int) == (cl : Int)) = true := by simp
      have t2 : (A == A) = true := by simp
      go_wp2_with fail
      refine Hceil.out.mono ?_
      rintro e w' ⟨rfl, rfl⟩
      go_wp2_with fail
      refine Hhas.out.mono ?_
      rintro e w' ⟨rfl, rfl⟩
      go_wp2_with fail
      refine (awake_any _).mono ?_
      rintro e w' ⟨rfl, hb⟩
      go_wp2
      go_ret
      exact ⟨rfl, Hb3.out.trans (hb.mono hw3)⟩
end Go.Proofs.Ytcgkpbhoiaeolaa.Tithe
