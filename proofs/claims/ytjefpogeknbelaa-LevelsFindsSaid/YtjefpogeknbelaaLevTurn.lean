/- Law 15: a meta turned into the document's form: walked. -/
import Derived.Test.YtjefpogeknbelaaLevRight
import Derived.Test.YtjefpogeknbelaaRowEdit
import Derived.Deep.RegionHeld3
namespace Go.Proofs.Ytjefpogeknbelaa.Tithe
open Go.RowKit Go.Sort Go.Shelf
set_option linter.unusedVariables false
set_option linter.unusedSimpArgs false
set_option maxRecDepth 100000
theorem ref15Info : (Try.prog.info? 85).map (fun i => (i.zero, i.size, i.bytes)) = some (some (.agg #[.int .i64 0, .int .i64 0]), 2, 16) := by kernel_rfl
theorem mt15Info : (Try.prog.info? 35).map (·.size) = some 9 := by kernel_rfl
abbrev OwnRx (W : World) (base : Nat) (v : Value) (l : List (Int × Int)) : Prop := W.ownsRow base 85 2 v l.length (flat rfC l)
theorem keep9 {V : World} {b b' : Nat} {ob : Obj} (hne : b' ≠ b) (h : V.heap[b']? = some ob) (x0 x1 x2 x3 x4 x5 x6 x7 x8 : Value) : (((((((((V.setCell ⟨b, 0, none⟩ x0).setCell ⟨b, 1, none⟩ x1).setCell ⟨b, 2, none⟩ x2).setCell ⟨b, 3, none⟩ x3).setCell ⟨b, 4, none⟩ x4).setCell ⟨b, 5, none⟩ x5).setCell ⟨b, 6, none⟩ x6).setCell ⟨b, 7, none⟩ x7).setCell ⟨b, 8, none⟩ x8).heap[b']? = some ob := by
  iterate 9 refine (Below.heap_setCell _ ⟨b, _, none⟩ _ _ hne).trans ?_
  exact h
theorem below9 {w V : World} {b B : Nat} (h : Below B w V) (hb : B ≤ b) (x0 x1 x2 x3 x4 x5 x6 x7 x8 : Value) : Below B w (((((((((V.setCell ⟨b, 0, none⟩ x0).setCell ⟨b, 1, none⟩ x1).setCell ⟨b, 2, none⟩ x2).setCell ⟨b, 3, none⟩ x3).setCell ⟨b, 4, none⟩ x4).setCell ⟨b, 5, none⟩ x5).setCell ⟨b, 6, none⟩ x6).setCell ⟨b, 7, none⟩ x7).setCell ⟨b, 8, none⟩ x8) := by
  iterate 9 refine Below.setCell (p := ⟨b, _, none⟩) ?_ hb _
  exact h
/-- one more -/
theorem push_rx (W0 : World) (base : Nat) (xa : Option Addr) (k xc : Nat) (l : List (Int × Int)) (x y : Int) (hk : k = l.length) (h : OwnRx W0 base (.slice xa k xc) l) (hl : k ≤ 1000000) (hb : base ≤ W0.heap.size) :
    ∃ ya yc w2, (Builtin.append_ #[33, 33] 33 #[.slice xa k xc, .slice (some ⟨W0.heap.size, 0, none⟩) 1 1]).run Try.prog (W0.alloc (.cells #[.int .i64 x, .int .i64 y] 85)) = .ok (.slice ya (k + 1) yc) w2 ∧
      OwnRx w2 base (.slice ya (k + 1) yc) (l ++ [(x, y)]) ∧ (W0.alloc (.cells #[.int .i64 x, .int .i64 y] 85)).grownBy w2 (Value.slice xa k xc).ownBlock := by
  subst hk
  obtain ⟨i0, hi0, hz0, hz1, hz2⟩ := info_partsL ref15Info
  have h' : OwnRx (W0.alloc (.cells #[.int .i64 x, .int .i64 y] 85)) base (.slice xa l.length xc) l := own_below h ((Below.refl _ _).alloc (Nat.le_refl _) _)
  obtain ⟨g, yc, w2, hrun, hown, hg, hlies, -⟩ := run_append_lies (P := Try.prog) (W0.alloc (.cells #[.int .i64 x, .int .i64 y] 85)) 33 33 base 85 i0 (.agg #[.int .i64 0, .int .i64 0]) 2 16 Try.underlying33 hi0 hz0 hz1 hz2 rfl (by decide)
    (.slice xa l.length xc) l.length (flat rfC l) h' ⟨W0.heap.size, 0, none⟩ 1 1 (rfC (x, y)) rfl (newsL _ _ rfl _ _ rfl) (by intro u hu; simp [rfC] at hu; rcases hu with rfl | rfl <;> rfl) (by omega) (by unfold maxLen; omega) (by omega) (by simp; omega) _ rfl
  refine ⟨_, yc, w2, hrun, ?_, hg⟩
  unfold OwnRx
  rw [List.length_append, flat_append, flat_one]
  exact hown
set_option maxHeartbeats 800000 in
theorem ref_any (z n : Int) (a b : Ky) (vr : Value) (l : List (Int × Int)) (w : World) (h : IsRr w vr l) (hl : l.length ≤ 1000000) :
    Calls Try.prog 13 #[metaV z n a b vr] w fun e w' => ∃ v', e = .returned (metaV z n a b v') ∧ OwnRx w' w.heap.size v' l ∧ Below w.heap.size w w' := by
  obtain ⟨va, c, rfl, -, -, -⟩ := id h
  obtain ⟨-, hc, hm, hx⟩ := h.at
  obtain ⟨m, hm2⟩ : ∃ m, m = l.length := ⟨_, rfl⟩
  unfold metaV
  rw [← hm2] at hx hc hl ⊢
  have Hx := Lib.hid hx
  have Hm2 := Lib.hid hm2
  have HA := Lib.hid (fun W => refKey_any a W)
  have HB := Lib.hid (fun W => refKey_any b W)
  clear h hx hm2
  have hk0 := blk_old (blk_of_alloc w (.cells #[.int .i64 z, .int .i64 n, .string a.u, .int .i64 a.s, .int .i64 a.k, .string b.u, .int .i64 b.s, .int .i64 b.k, .slice va m c] 26)) (.cells #[.int .i64 0, .int .i64 0, .string ⟨#[]⟩, .int .i64 0, .int .i64 0, .string ⟨#[]⟩, .int .i64 0, .int .i64 0, .slice none 0 0] 35)
  have hk1 : ((w.alloc (.cells #[.int .i64 z, .int .i64 n, .string a.u, .int .i64 a.s, .int .i64 a.k, .string b.u, .int .i64 b.s, .int .i64 b.k, .slice va m c] 26)).alloc (.cells #[.int .i64 0, .int .i64 0, .string ⟨#[]⟩, .int .i64 0, .int .i64 0, .string ⟨#[]⟩, .int .i64 0, .int .i64 0, .slice none 0 0] 35)).heap[w.heap.size + 1]? = some (.cells #[.int .i64 0, .int .i64 0, .string ⟨#[]⟩, .int .i64 0, .int .i64 0, .string ⟨#[]⟩, .int .i64 0, .int .i64 0, .slice none 0 0] 35 (0, 0)) := blk_new (by simp only [World.size_alloc]) _
  have hbw : Below w.heap.size w ((w.alloc (.cells #[.int .i64 z, .int .i64 n, .string a.u, .int .i64 a.s, .int .i64 a.k, .string b.u, .int .i64 b.s, .int .i64 b.k, .slice va m c] 26)).alloc (.cells #[.int .i64 0, .int .i64 0, .string ⟨#[]⟩, .int .i64 0, .int .i64 0, .string ⟨#[]⟩, .int .i64 0, .int .i64 0, .slice none 0 0] 35)) := ((Below.refl _ _).alloc (Nat.le_refl _) _).alloc (by simp) _
  go_enter Try.func13, Try.ntmps13
  go_upto_region 1 with fail
  generalize (w.alloc (.cells #[.int .i64 z, .int .i64 n, .string a.u, .int .i64 a.s, .int .i64 a.k, .string b.u, .int .i64 b.s, .int .i64 b.k, .slice va m c] 26)).alloc (.cells #[.int .i64 0, .int .i64 0, .string ⟨#[]⟩, .int .i64 0, .int .i64 0, .string ⟨#[]⟩, .int .i64 0, .int .i64 0, .slice none 0 0] 35) = W at *
  have Hk1 := Lib.hid hk1
  have Hbw := Lib.hid hbw
  clear hk1 hbw
  go_cut [3] (fun pv wc => ∃ P, pv = .pointer (some ⟨P, 0, none⟩) ∧ wc.heap[w.heap.size]? = some (.cells #[.int .i64 z, .int .i64 n, .string a.u, .int .i64 a.s, .int .i64 a.k, .string b.u, .int .i64 b.s, .int .i64 b.k, .slice va m c] 26 (0, 0)) ∧ wc.heap[w.heap.size + 1]? = some (.cells #[.int .i64 0, .int .i64 0, .string ⟨#[]⟩, .int .i64 0, .int .i64 0, .string ⟨#[]⟩, .int .i64 0, .int .i64 0, .slice none 0 0] 35 (0, 0)) ∧ wc.heap[P]? = some (.cells #[.int .i64 z, .int .i64 n, .string a.u, .int .i64 a.s, .int .i64 a.k, .string b.u, .int .i64 b.s, .int .i64 b.k, .slice none 0 0] 35 (0, 0)) ∧ w.heap.size + 1 < P ∧ Below w.heap.size w wc)
  case first =>
    have hS : W.drew.heap[w.heap.size]? = some (.cells #[.int .i64 z, .int .i64 n, .string a.u, .int .i64 a.s, .int .i64 a.k, .string b.u, .int .i64 b.s, .int .i64 b.k, .slice va m c] 26 (0, 0)) := hk0
    have K0 := Lib.hid ((Below.refl W.heap.size W).drew)
    refine wp_region_held_drew (S := fun V => V.heap[w.heap.size]? = some (.cells #[.int .i64 z, .int .i64 n, .string a.u, .int .i64 a.s, .int .i64 a.k, .string b.u, .int .i64 b.s, .int .i64 b.k, .slice va m c] 26 (0, 0))) (by kernel_rfl) hS (fun hS0 => ?_)
    refine wpAnyH_take (i := 0) (v := ?_) rfl (by kernel_rfl) (by kernel_rfl) (by kernel_rfl) (fun _ _ _ h => h) (Or.inl ⟨by rfl, ?hy0⟩) hS0 ?_
    case hy0 => (intro V hSw; (try dsimp only at hSw); have hcw := fun j => cell_of_blk hSw j; clear hSw; go_simp; try with_reducible rfl)
    try simp only [Act.put, List.setIfInBounds_toArray, List.set_cons_zero, List.set_cons_succ]
    refine wpAnyH_take (i := 1) (v := ?_) rfl (by kernel_rfl) (by kernel_rfl) (by kernel_rfl) (fun _ _ _ h => h) (Or.inl ⟨by rfl, ?hy1⟩) hS0 ?_
    case hy1 => (intro V hSw; (try dsimp only at hSw); have hcw := fun j => cell_of_blk hSw j; clear hSw; go_simp; try with_reducible rfl)
    try simp only [Act.put, List.setIfInBounds_toArray, List.set_cons_zero, List.set_cons_succ]
    refine wpAnyH_take (i := 2) (v := ?_) rfl (by kernel_rfl) (by kernel_rfl) (by kernel_rfl) (fun _ _ _ h => h) (Or.inl ⟨by rfl, ?hy2⟩) hS0 ?_
    case hy2 => (intro V hSw; (try dsimp only at hSw); have hcw := fun j => cell_of_blk hSw j; clear hSw; go_simp; try with_reducible rfl)
    try simp only [Act.put, List.setIfInBounds_toArray, List.set_cons_zero, List.set_cons_succ]
    refine wpAnyH_take (i := 3) (v := ?_) rfl (by kernel_rfl) (by kernel_rfl) (by kernel_rfl) (fun _ _ _ h => h) (Or.inl ⟨by rfl, ?hy3⟩) hS0 ?_
    case hy3 => (intro V hSw; (try dsimp only at hSw); have hcw := fun j => cell_of_blk hSw j; clear hSw; go_simp; try with_reducible rfl)
    try simp only [Act.put, List.setIfInBounds_toArray, List.set_cons_zero, List.set_cons_succ]
    refine wpAnyH_take (i := 4) (v := ?_) rfl (by kernel_rfl) (by kernel_rfl) (by kernel_rfl) (fun _ _ _ h => h) (Or.inl ⟨by rfl, ?hy4⟩) hS0 ?_
    case hy4 => (intro V hSw; (try dsimp only at hSw); have hcw := fun j => cell_of_blk hSw j; clear hSw; go_simp; try with_reducible rfl)
    try simp only [Act.put, List.setIfInBounds_toArray, List.set_cons_zero, List.set_cons_succ]
    refine wpAnyH_take (i := 5) (v := ?_) rfl (by kernel_rfl) (by kernel_rfl) (by kernel_rfl) (fun _ _ _ h => h) (Or.inl ⟨by rfl, ?hy5⟩) hS0 ?_
    case hy5 => (intro V hSw; (try dsimp only at hSw); have hcw := fun j => cell_of_blk hSw j; clear hSw; go_simp; try with_reducible rfl)
    try simp only [Act.put, List.setIfInBounds_toArray, List.set_cons_zero, List.set_cons_succ]
    refine wpAnyH_take (i := 7) (v := ?_) rfl (by kernel_rfl) (by kernel_rfl) (by kernel_rfl) (fun _ _ _ h => h) (Or.inl ⟨by rfl, ?hy7⟩) hS0 ?_
    case hy7 => (intro V hSw; (try dsimp only at hSw); have hcw := fun j => cell_of_blk hSw j; clear hSw; go_simp; try with_reducible rfl)
    try simp only [Act.put, List.setIfInBounds_toArray, List.set_cons_zero, List.set_cons_succ]
    refine wpAnyH_take (i := 8) (v := ?_) rfl (by kernel_rfl) (by kernel_rfl) (by kernel_rfl) (fun _ _ _ h => h) (Or.inl ⟨by rfl, ?hy8⟩) hS0 ?_
    case hy8 => (intro V hSw; (try dsimp only at hSw); have hcw := fun j => cell_of_blk hSw j; clear hSw; go_simp; try with_reducible rfl)
    try simp only [Act.put, List.setIfInBounds_toArray, List.set_cons_zero, List.set_cons_succ]
    refine wpAnyH_ready (rs := [6, 11]) (by kernel_rfl) (by simp) (AllReadyH.cons rfl (fun K hK => ?_) (AllReadyH.cons rfl (fun K hK => ?_) AllReadyH.nil))
    · go_simp
      refine (HA.out _).mono ?_
      rintro e wv1 ⟨rfl, hbv1⟩
      have hS1 := blk_bels hbv1 hS0
      have K1 := Lib.hid (K0.out.trans (hbv1.mono K0.out.size))
      clear hbv1
      refine hK.out _ _ hS1 (fun _ => ?_)
      clear hK K
      try simp only [Act.put, List.setIfInBounds_toArray, List.set_cons_zero, List.set_cons_succ]
      refine wpAnyH_ready (rs := [9, 11]) (by kernel_rfl) (by simp) (AllReadyH.cons rfl (fun K hK => ?_) (AllReadyH.cons rfl (fun K hK => ?_) AllReadyH.nil))
      · go_simp
        refine (HB.out _).mono ?_
        rintro e wv2 ⟨rfl, hbv2⟩
        have hS2 := blk_bels hbv2 hS1
        have K2 := Lib.hid (K1.out.trans (hbv2.mono K1.out.size))
        clear hbv2
        refine hK.out _ _ hS2 (fun _ => ?_)
        clear hK K
        try simp only [Act.put, List.setIfInBounds_toArray, List.set_cons_zero, List.set_cons_succ]
        refine wpAnyH_ready (rs := [10, 11]) (by kernel_rfl) (by simp) (AllReadyH.cons rfl (fun K hK => ?_) (AllReadyH.cons rfl (fun K hK => ?_) AllReadyH.nil))
        · go_simp
          refine hK.out _ _ hS2 (fun _ => ?_)
          clear hK K
          try simp only [Act.put, List.setIfInBounds_toArray, List.set_cons_zero, List.set_cons_succ]
          refine wpAnyH_ready (rs := [11]) (by kernel_rfl) (by simp) (AllReadyH.cons rfl (fun K hK => ?_) AllReadyH.nil)
          go_simp
          have hS3 := blk_old hS2 (.cells #[.int .i64 0, .int .i64 0, .string ⟨#[]⟩, .int .i64 0, .int .i64 0, .string ⟨#[]⟩, .int .i64 0, .int .i64 0, .slice none 0 0] 35)
          have hp3 : (wv2.alloc (.cells #[.int .i64 0, .int .i64 0, .string ⟨#[]⟩, .int .i64 0, .int .i64 0, .string ⟨#[]⟩, .int .i64 0, .int .i64 0, .slice none 0 0] 35)).heap[wv2.heap.size]? = _ := blk_of_alloc wv2 (.cells #[.int .i64 0, .int .i64 0, .string ⟨#[]⟩, .int .i64 0, .int .i64 0, .string ⟨#[]⟩, .int .i64 0, .int .i64 0, .slice none 0 0] 35)
          have K3 := Lib.hid (K2.out.alloc K2.out.size (.cells #[.int .i64 0, .int .i64 0, .string ⟨#[]⟩, .int .i64 0, .int .i64 0, .string ⟨#[]⟩, .int .i64 0, .int .i64 0, .slice none 0 0] 35))
          have hsz3 : w.heap.size + 1 < wv2.heap.size := Nat.lt_of_lt_of_le (blk_lt Hk1.out) K2.out.size
          refine hK.out _ _ hS3 (fun _ => ?_)
          clear hK K
          try simp only [Act.put, List.setIfInBounds_toArray, List.set_cons_zero, List.set_cons_succ]
          refine wpAnyH_ready (rs := [12]) (by kernel_rfl) (by simp) (AllReadyH.cons rfl (fun K hK => ?_) AllReadyH.nil)
          go_simp
          refine hK.out _ _ ?hs (fun _ => ?_)
          case hs => exact blk_old hS2 _
          clear hK K
          try simp only [Act.put, List.setIfInBounds_toArray, List.set_cons_zero, List.set_cons_succ]
          refine wpAnyH_done (by kernel_rfl) ?_ _
          go_wp2_with fail
          go_meet
          case rel => exact ⟨wv2.heap.size, rfl, blk_old hS2 _, blk_old ((K2.out.block _ (blk_lt Hk1.out)).trans Hk1.out) _, blk_of_alloc wv2 _, by omega, (Hbw.out.trans (K2.out.mono Hbw.out.size)).alloc (Nat.le_trans Hbw.out.size K2.out.size) _⟩
        · go_simp
          have hS4 := blk_old hS2 (.cells #[.int .i64 0, .int .i64 0, .string ⟨#[]⟩, .int .i64 0, .int .i64 0, .string ⟨#[]⟩, .int .i64 0, .int .i64 0, .slice none 0 0] 35)
          have hp4 : (wv2.alloc (.cells #[.int .i64 0, .int .i64 0, .string ⟨#[]⟩, .int .i64 0, .int .i64 0, .string ⟨#[]⟩, .int .i64 0, .int .i64 0, .slice none 0 0] 35)).heap[wv2.heap.size]? = _ := blk_of_alloc wv2 (.cells #[.int .i64 0, .int .i64 0, .string ⟨#[]⟩, .int .i64 0, .int .i64 0, .string ⟨#[]⟩, .int .i64 0, .int .i64 0, .slice none 0 0] 35)
          have K4 := Lib.hid (K2.out.alloc K2.out.size (.cells #[.int .i64 0, .int .i64 0, .string ⟨#[]⟩, .int .i64 0, .int .i64 0, .string ⟨#[]⟩, .int .i64 0, .int .i64 0, .slice none 0 0] 35))
          have hsz4 : w.heap.size + 1 < wv2.heap.size := Nat.lt_of_lt_of_le (blk_lt Hk1.out) K2.out.size
          refine hK.out _ _ hS4 (fun _ => ?_)
          clear hK K
          try simp only [Act.put, List.setIfInBounds_toArray, List.set_cons_zero, List.set_cons_succ]
          refine wpAnyH_ready (rs := [10]) (by kernel_rfl) (by simp) (AllReadyH.cons rfl (fun K hK => ?_) AllReadyH.nil)
          go_simp
          refine hK.out _ _ hS4 (fun _ => ?_)
          clear hK K
          try simp only [Act.put, List.setIfInBounds_toArray, List.set_cons_zero, List.set_cons_succ]
          refine wpAnyH_ready (rs := [12]) (by kernel_rfl) (by simp) (AllReadyH.cons rfl (fun K hK => ?_) AllReadyH.nil)
          go_simp
          refine hK.out _ _ ?hs (fun _ => ?_)
          case hs => exact blk_old hS2 _
          clear hK K
          try simp only [Act.put, List.setIfInBounds_toArray, List.set_cons_zero, List.set_cons_succ]
          refine wpAnyH_done (by kernel_rfl) ?_ _
          go_wp2_with fail
          go_meet
          case rel => exact ⟨wv2.heap.size, rfl, blk_old hS2 _, blk_old ((K2.out.block _ (blk_lt Hk1.out)).trans Hk1.out) _, blk_of_alloc wv2 _, by omega, (Hbw.out.trans (K2.out.mono Hbw.out.size)).alloc (Nat.le_trans Hbw.out.size K2.out.size) _⟩
      · go_simp
        have hS5 := blk_old hS1 (.cells #[.int .i64 0, .int .i64 0, .string ⟨#[]⟩, .int .i64 0, .int .i64 0, .string ⟨#[]⟩, .int .i64 0, .int .i64 0, .slice none 0 0] 35)
        have hp5 : (wv1.alloc (.cells #[.int .i64 0, .int .i64 0, .string ⟨#[]⟩, .int .i64 0, .int .i64 0, .string ⟨#[]⟩, .int .i64 0, .int .i64 0, .slice none 0 0] 35)).heap[wv1.heap.size]? = _ := blk_of_alloc wv1 (.cells #[.int .i64 0, .int .i64 0, .string ⟨#[]⟩, .int .i64 0, .int .i64 0, .string ⟨#[]⟩, .int .i64 0, .int .i64 0, .slice none 0 0] 35)
        have K5 := Lib.hid (K1.out.alloc K1.out.size (.cells #[.int .i64 0, .int .i64 0, .string ⟨#[]⟩, .int .i64 0, .int .i64 0, .string ⟨#[]⟩, .int .i64 0, .int .i64 0, .slice none 0 0] 35))
        have hsz5 : w.heap.size + 1 < wv1.heap.size := Nat.lt_of_lt_of_le (blk_lt Hk1.out) K1.out.size
        refine hK.out _ _ hS5 (fun _ => ?_)
        clear hK K
        try simp only [Act.put, List.setIfInBounds_toArray, List.set_cons_zero, List.set_cons_succ]
        refine wpAnyH_ready (rs := [9]) (by kernel_rfl) (by simp) (AllReadyH.cons rfl (fun K hK => ?_) AllReadyH.nil)
        go_simp
        refine (HB.out _).mono ?_
        rintro e wv6 ⟨rfl, hbv6⟩
        have hS6 := blk_bels hbv6 hS5
        have K6 := Lib.hid (K5.out.trans (hbv6.mono K5.out.size))
        have hp6 := blk_bels hbv6 hp5
        clear hbv6
        refine hK.out _ _ hS6 (fun _ => ?_)
        clear hK K
        try simp only [Act.put, List.setIfInBounds_toArray, List.set_cons_zero, List.set_cons_succ]
        refine wpAnyH_ready (rs := [10]) (by kernel_rfl) (by simp) (AllReadyH.cons rfl (fun K hK => ?_) AllReadyH.nil)
        go_simp
        refine hK.out _ _ hS6 (fun _ => ?_)
        clear hK K
        try simp only [Act.put, List.setIfInBounds_toArray, List.set_cons_zero, List.set_cons_succ]
        refine wpAnyH_ready (rs := [12]) (by kernel_rfl) (by simp) (AllReadyH.cons rfl (fun K hK => ?_) AllReadyH.nil)
        have hpc := fun j => cell_of_blk hp6 j
        have hpz := fun j => frozen_of_blk hp6 j
        go_simp
        refine hK.out _ _ ?hs (fun _ => ?_)
        case hs => exact keep9 (b := wv1.heap.size) (by omega) hS6 _ _ _ _ _ _ _ _ _
        clear hK K
        try simp only [Act.put, List.setIfInBounds_toArray, List.set_cons_zero, List.set_cons_succ]
        refine wpAnyH_done (by kernel_rfl) ?_ _
        go_wp2_with fail
        go_meet
        case rel => exact ⟨wv1.heap.size, rfl, keep9 (by omega) hS6 _ _ _ _ _ _ _ _ _, keep9 (by omega) ((K6.out.block _ (blk_lt Hk1.out)).trans Hk1.out) _ _ _ _ _ _ _ _ _, set9g rfl hp6 _ _ _ _ _ _ _ _ _, by omega, below9 (Hbw.out.trans (K6.out.mono Hbw.out.size)) (by omega) _ _ _ _ _ _ _ _ _⟩
    · go_simp
      have hS7 := blk_old hS0 (.cells #[.int .i64 0, .int .i64 0, .string ⟨#[]⟩, .int .i64 0, .int .i64 0, .string ⟨#[]⟩, .int .i64 0, .int .i64 0, .slice none 0 0] 35)
      have hp7 : (W.drew.alloc (.cells #[.int .i64 0, .int .i64 0, .string ⟨#[]⟩, .int .i64 0, .int .i64 0, .string ⟨#[]⟩, .int .i64 0, .int .i64 0, .slice none 0 0] 35)).heap[W.heap.size]? = _ := blk_of_alloc W.drew (.cells #[.int .i64 0, .int .i64 0, .string ⟨#[]⟩, .int .i64 0, .int .i64 0, .string ⟨#[]⟩, .int .i64 0, .int .i64 0, .slice none 0 0] 35)
      have K7 := Lib.hid (K0.out.alloc K0.out.size (.cells #[.int .i64 0, .int .i64 0, .string ⟨#[]⟩, .int .i64 0, .int .i64 0, .string ⟨#[]⟩, .int .i64 0, .int .i64 0, .slice none 0 0] 35))
      have hsz7 : w.heap.size + 1 < W.heap.size := Nat.lt_of_lt_of_le (blk_lt Hk1.out) K0.out.size
      refine hK.out _ _ hS7 (fun _ => ?_)
      clear hK K
      try simp only [Act.put, List.setIfInBounds_toArray, List.set_cons_zero, List.set_cons_succ]
      refine wpAnyH_ready (rs := [6]) (by kernel_rfl) (by simp) (AllReadyH.cons rfl (fun K hK => ?_) AllReadyH.nil)
      go_simp
      refine (HA.out _).mono ?_
      rintro e wv8 ⟨rfl, hbv8⟩
      have hS8 := blk_bels hbv8 hS7
      have K8 := Lib.hid (K7.out.trans (hbv8.mono K7.out.size))
      have hp8 := blk_bels hbv8 hp7
      clear hbv8
      refine hK.out _ _ hS8 (fun _ => ?_)
      clear hK K
      try simp only [Act.put, List.setIfInBounds_toArray, List.set_cons_zero, List.set_cons_succ]
      refine wpAnyH_ready (rs := [9]) (by kernel_rfl) (by simp) (AllReadyH.cons rfl (fun K hK => ?_) AllReadyH.nil)
      go_simp
      refine (HB.out _).mono ?_
      rintro e wv9 ⟨rfl, hbv9⟩
      have hS9 := blk_bels hbv9 hS8
      have K9 := Lib.hid (K8.out.trans (hbv9.mono K8.out.size))
      have hp9 := blk_bels hbv9 hp8
      clear hbv9
      refine hK.out _ _ hS9 (fun _ => ?_)
      clear hK K
      try simp only [Act.put, List.setIfInBounds_toArray, List.set_cons_zero, List.set_cons_succ]
      refine wpAnyH_ready (rs := [10]) (by kernel_rfl) (by simp) (AllReadyH.cons rfl (fun K hK => ?_) AllReadyH.nil)
      go_simp
      refine hK.out _ _ hS9 (fun _ => ?_)
      clear hK K
      try simp only [Act.put, List.setIfInBounds_toArray, List.set_cons_zero, List.set_cons_succ]
      refine wpAnyH_ready (rs := [12]) (by kernel_rfl) (by simp) (AllReadyH.cons rfl (fun K hK => ?_) AllReadyH.nil)
      have hpc := fun j => cell_of_blk hp9 j
      have hpz := fun j => frozen_of_blk hp9 j
      go_simp
      refine hK.out _ _ ?hs (fun _ => ?_)
      case hs => exact keep9 (b := W.heap.size) (by omega) hS9 _ _ _ _ _ _ _ _ _
      clear hK K
      try simp only [Act.put, List.setIfInBounds_toArray, List.set_cons_zero, List.set_cons_succ]
      refine wpAnyH_done (by kernel_rfl) ?_ _
      go_wp2_with fail
      go_meet
      case rel => exact ⟨W.heap.size, rfl, keep9 (by omega) hS9 _ _ _ _ _ _ _ _ _, keep9 (by omega) ((K9.out.block _ (blk_lt Hk1.out)).trans Hk1.out) _ _ _ _ _ _ _ _ _, set9g rfl hp9 _ _ _ _ _ _ _ _ _, by omega, below9 (Hbw.out.trans (K9.out.mono Hbw.out.size)) (by omega) _ _ _ _ _ _ _ _ _⟩
  case rest =>
    obtain ⟨P, rfl, g0, g1, gp, hPl, hb⟩ := hcut
    have c8 := (cell_of_blk g0 8).trans (show _ = some (.slice va m c) from rfl)
    have Gp := Lib.hid gp
    have G1 := Lib.hid g1
    have Hb := Lib.hid hb
    have hPw : P < wc.heap.size := blk_lt gp
    clear g0 g1 gp hb Hk1 Hbw HA HB
    go_wp2_with fail
    go_loopw [20] (fun iv wr => ∃ k : Nat, k ≤ m ∧ iv = .int .i64 k ∧ ∃ (xa : Option Addr) (xc : Nat), wr.heap[P]? = some (.cells #[.int .i64 z, .int .i64 n, .string a.u, .int .i64 a.s, .int .i64 a.k, .string b.u, .int .i64 b.s, .int .i64 b.k, .slice xa k xc] 35 (0, 0)) ∧ OwnRx wr wc.heap.size (.slice xa k xc) (l.take k) ∧ wr.heap[w.heap.size + 1]? = some (.cells #[.int .i64 0, .int .i64 0, .string ⟨#[]⟩, .int .i64 0, .int .i64 0, .string ⟨#[]⟩, .int .i64 0, .int .i64 0, .slice none 0 0] 35 (0, 0)) ∧ Below w.heap.size w wr ∧ wc.heap.size ≤ wr.heap.size) (fun iv _ => m - (intOf iv).toNat)
    case atStart => exact ⟨0, Nat.zero_le _, rfl, none, 0, Gp.out, by rw [List.take_zero]; exact World.ownsRow_nil _ _ _ _, G1.out, Hb.out, Nat.le_refl _⟩
    case round =>
      obtain ⟨wo, rfl⟩ : ∃ wo : World, wo = wr := ⟨_, rfl⟩
      obtain ⟨k, hk, rfl, xa, xc, gp, hown, g1, hb, hs⟩ := hrel
      by_cases hkm : k < m
      · obtain ⟨rb, off, rfl, hrow⟩ := Hx.out (by omega)
        obtain ⟨⟨x, y⟩, hxk⟩ : ∃ x, l[k]? = some x := ⟨_, List.getElem?_eq_getElem (by rw [← Hm2.out]; exact hkm)⟩
        have r0 := hrow k _ hxk 0 _ rfl
        have r1 := hrow k _ hxk 1 _ rfl
        have q0 := (hb.cell (block_lt_of_cell r0)).trans r0
        have q1 := (hb.cell (block_lt_of_cell r1)).trans r1
        rw [Nat.add_zero] at q0
        dsimp only at q0 q1
        have hb5 : Below wo.heap.size wo (wo.alloc (.cells #[.int .i64 x, .int .i64 y] 55)) := (Below.refl _ _).alloc (Nat.le_refl _) _
        have hp5 := blk_old gp (.cells #[.int .i64 x, .int .i64 y] 55)
        have p8 := (cell_of_blk hp5 8).trans (show _ = some (.slice xa k xc) from rfl)
        have hkl : k = (l.take k).length := by rw [List.length_take, ← Hm2.out]; omega
        obtain ⟨ya, yc, w2, hrun, hown2, hg2⟩ := push_rx (wo.alloc (.cells #[.int .i64 x, .int .i64 y] 55)) wc.heap.size xa k xc (l.take k) x y hkl (own_below hown hb5) (by omega) (Nat.le_trans hs hb5.size)
        have hlow : ∀ g, (Value.slice xa k xc).ownBlock = some g → wc.heap.size ≤ g := fun g e => (hown.lt g e).1
        have hbA : Below wo.heap.size wo ((wo.alloc (.cells #[.int .i64 x, .int .i64 y] 55)).alloc (.cells #[.int .i64 x, .int .i64 y] 85)) := hb5.alloc hb5.size _
        have hk2 : ∀ {i : Nat} {ob : Obj}, i < wc.heap.size → wo.heap[i]? = some ob → w2.heap[i]? = some ob := fun {i ob} hi hh => (hg2.block i (blk_lt (blk_bels hbA hh)) (fun e => by have := hlow i e.symm; omega)).trans (blk_bels hbA hh)
        have gp2 := hk2 hPw gp
        have pz := fun j => frozen_of_blk gp2 j
        have pc := fun j => cell_of_blk gp2 j
        have hbw2 : Below w.heap.size w w2 := ((hb.trans (hbA.mono hb.size))).grown hg2 (Nat.le_trans hb.size hbA.size) (fun g e => by have := hlow g e; have := Hb.out.size; omega)
        have hsz2 : wc.heap.size ≤ w2.heap.size := Nat.le_trans (Nat.le_trans hs hbA.size) hg2.size
        have HF : Hid ((w2.setCell ⟨P, 8, none⟩ (.slice ya (k + 1) yc)).heap[P]? = some (.cells #[.int .i64 z, .int .i64 n, .string a.u, .int .i64 a.s, .int .i64 a.k, .string b.u, .int .i64 b.s, .int .i64 b.k, .slice ya (k + 1) yc] 35 (0, 0)) ∧ OwnRx (w2.setCell ⟨P, 8, none⟩ (.slice ya (k + 1) yc)) wc.heap.size (.slice ya (k + 1) yc) (l.take (k + 1)) ∧ (w2.setCell ⟨P, 8, none⟩ (.slice ya (k + 1) yc)).heap[w.heap.size + 1]? = some (.cells #[.int .i64 0, .int .i64 0, .string ⟨#[]⟩, .int .i64 0, .int .i64 0, .string ⟨#[]⟩, .int .i64 0, .int .i64 0, .slice none 0 0] 35 (0, 0)) ∧ Below w.heap.size w (w2.setCell ⟨P, 8, none⟩ (.slice ya (k + 1) yc)) ∧ wc.heap.size ≤ (w2.setCell ⟨P, 8, none⟩ (.slice ya (k + 1) yc)).heap.size) := by
          refine Lib.hid ⟨(blk_set gp2).trans rfl, ?_, (Below.heap_setCell _ ⟨P, 8, none⟩ _ _ (by show w.heap.size + 1 ≠ P; omega)).trans (hk2 (by omega) g1), hbw2.setCell (by simp; omega) _, by simp only [World.size_setCell]; exact hsz2⟩
          have hc2 := own_far hown2 (grown_set w2 P 8 (.slice ya (k + 1) yc)) (fun r e => by cases e; exact hPw)
          rw [List.take_add_one, hxk]
          exact hc2
        simp only [World.size_alloc] at hrun
        clear hown hrow r0 r1 hxk hown2 hg2 hlow hbA hk2 gp2 hbw2 hsz2 hb5 hp5 gp g1 hb hkl
        go_wp2_with (at_builtin; first | (refine wpList_val rfl _ _ (run_append_op (.tmp 25) (.tmp 31) 33 33 rfl rfl rfl hrun) ?_) | (refine wpList_val rfl _ _ (run_append_op (.tmp 25) (.tmp 31) 33 33 rfl (by simp) (by simp) hrun) ?_))
        go_roundw
        case rel => exact ⟨k + 1, by omega, by go_num, ya, yc, HF.out⟩
        case measure => simp [intOf]; omega
      · obtain rfl : k = m := by omega
        have d := fun j => cell_of_blk gp j
        have e := fun j => cell_of_blk g1 j
        have ez := fun j => frozen_of_blk g1 j
        have G1' := Lib.hid g1
        have Hown := Lib.hid hown
        have Hbb := Lib.hid hb
        clear gp g1 hown hb
        go_wp2_with fail
        refine bodyPost_ret (v := .agg #[.int .i64 z, .int .i64 n, .string a.u, .int .i64 a.s, .int .i64 a.k, .string b.u, .int .i64 b.s, .int .i64 b.k, .slice xa k xc]) ?_ rfl ⟨.slice xa k xc, rfl, ?_, ?_⟩
        · exact results_cell_row Try.results13 _ _ (w.heap.size + 1) 35 _ (0, 0) _ rfl (set9g rfl G1'.out _ _ _ _ _ _ _ _ _) Try.underlying35 rfl mt15Info
        · have e9 := Hown.out
          rw [show l.take k = l by rw [Hm2.out, List.take_length]] at e9
          have := Hb.out.size
          refine own_mono (b2 := w.heap.size) ?_ this
          iterate 9 refine ownsRow_setCell_below (a := ⟨w.heap.size + 1, _, none⟩) ?_ (show w.heap.size + 1 < wc.heap.size by omega) _
          exact e9
        · exact below9 Hbb.out (by omega) _ _ _ _ _ _ _ _ _
end Go.Proofs.Ytjefpogeknbelaa.Tithe
