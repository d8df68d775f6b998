/- Version.Equal and what it calls: walked, of like versions, and of versions that differ in the number of a level's tables. -/
import Derived.Test.YtjefpogeknbelaaLevSame
import Derived.Test.YtjefpogeknbelaaRefApply
namespace Go.Proofs.Ytjefpogeknbelaa.Tithe
open Go.RowKit Go.Sort Go.Shelf
set_option linter.unusedVariables false
set_option linter.unusedSimpArgs false
set_option maxRecDepth 100000
attribute [local go_sem] Oper.semAt_some
set_option maxHeartbeats 3200000 in
theorem refeq_yes (va vb : Value) (l : List (Int × Int)) (w : World) (h : IsRr w va l) (h2 : IsRr w vb l) :
    Calls Try.prog 61 #[va, vb] w fun e w' => e = .returned (.bool true) ∧ Below w.heap.size w w' := by
  obtain ⟨xa, c, rfl, -, -, -⟩ := id h
  obtain ⟨xb, c', rfl, -, -, -⟩ := id h2
  obtain ⟨-, hc, hm, hx⟩ := h.at
  obtain ⟨-, hc', hm', hx'⟩ := h2.at
  obtain ⟨m, hmE⟩ : ∃ m, m = l.length := ⟨_, rfl⟩
  rw [← hmE] at hc hx hc' hx' ⊢
  have Hx := Lib.hid hx
  have Hx' := Lib.hid hx'
  have Hm := Lib.hid hmE
  clear h h2 hx hx' hmE
  go_enter Try.func61, Try.ntmps61
  go_wp2_with fail
  go_loopw [13] (fun iv wr => ∃ i : Nat, i ≤ m ∧ iv = .int .i64 i ∧ Below w.heap.size w wr) (fun iv _ => m - (intOf iv).toNat)
  case atStart => exact ⟨0, Nat.zero_le _, rfl, Below.refl _ _⟩
  case round =>
    obtain ⟨wo, rfl⟩ : ∃ wo : World, wo = wr := ⟨_, rfl⟩
    obtain ⟨i, hi, rfl, hb⟩ := hrel
    by_cases him : i < m
    · obtain ⟨b1, off1, rfl, hc1⟩ := Hx.out (by omega)
      obtain ⟨b2, off2, rfl, hc2⟩ := Hx'.out (by omega)
      obtain ⟨r, hr⟩ : ∃ r, l[i]? = some r := ⟨_, List.getElem?_eq_getElem (by rw [← Hm.out]; exact him)⟩
      obtain ⟨d0, d1⟩ := IsRr.two (w := wo) (fun i x hi j y hj => (hb.cell (block_lt_of_cell (hc1 i x hi j y hj))).trans (hc1 i x hi j y hj)) hr
      obtain ⟨k0, k1⟩ := IsRr.two (w := wo) (fun i x hi j y hj => (hb.cell (block_lt_of_cell (hc2 i x hi j y hj))).trans (hc2 i x hi j y hj)) hr
      obtain ⟨rz, rb⟩ := r
      dsimp only at d0 d1 k0 k1
      have Hb := Lib.hid hb
      clear hb hc1 hc2 hr
      go_wp2_with fail
      go_quiet (fail)
      go_wp2
      go_roundw
      case rel => exact ⟨i + 1, by omega, by go_num, below_drewN Hb.out _⟩
      case measure => simp [intOf]; omega
    · obtain rfl : i = m := by omega
      have Hb := Lib.hid hb
      clear hb
      go_wp2
      go_ret
      exact ⟨rfl, Hb.out⟩
set_option maxHeartbeats 3200000 in
theorem mequal_yes (z n : Int) (a b : Ky) (va vb : Value) (l : List (Int × Int)) (w : World) (h : IsRr w va l) (h2 : IsRr w vb l) :
    Calls Try.prog 50 #[metaV z n a b va, metaV z n a b vb] w fun e w' => e = .returned (.bool true) ∧ Below w.heap.size w w' := by
  obtain ⟨xa, c, rfl, -, -, -⟩ := id h
  obtain ⟨xb, c', rfl, -, -, -⟩ := id h2
  obtain ⟨m, hmE⟩ : ∃ m, m = l.length := ⟨_, rfl⟩
  unfold metaV
  obtain ⟨au, asq, ak⟩ := a
  obtain ⟨bu, bsq, bk⟩ := b
  have hB : Below w.heap.size w ((w.alloc (.cells #[.int .i64 z, .int .i64 n, .string au, .int .i64 asq, .int .i64 ak, .string bu, .int .i64 bsq, .int .i64 bk, .slice xa l.length c] 26)).alloc (.cells #[.int .i64 z, .int .i64 n, .string au, .int .i64 asq, .int .i64 ak, .string bu, .int .i64 bsq, .int .i64 bk, .slice xb l.length c'] 26)) := ((Below.refl _ _).alloc (Nat.le_refl _) _).alloc (by simp) _
  have HE := Lib.hid (refeq_yes _ _ l _ (h.below hB) (h2.below hB))
  have HB := Lib.hid hB
  rw [← hmE] at HE HB ⊢
  clear h h2 hB hmE
  go_enter Try.func50, Try.ntmps50
  go_wp2_with fail
  refine HE.out.mono ?_
  rintro e w2 ⟨rfl, hb2⟩
  have Hb2 := Lib.hid (HB.out.trans (hb2.mono HB.out.size))
  clear hb2
  go_wp2
  go_ret
  exact ⟨rfl, Hb2.out⟩
theorem mef_len (a a' : Option Addr) (n n' c c' : Nat) (fv : Value) (w : World) (h : n ≠ n') :
    Calls Try.prog 49 #[.slice a n c, .slice a' n' c', fv] w fun e w' => e = .returned (.bool false) ∧ w = w' := by
  have h1 : ((n : Int) != (n' : Int)) = true := by simpa using (show (n : Int) ≠ n' by omega)
  have h2 : ((n : Int) == (n' : Int)) = false := by simpa using (show (n : Int) ≠ n' by omega)
  go_enter Try.func49, Try.ntmps49
  go_wp2
  go_ret
  exact ⟨rfl, rfl⟩
set_option maxHeartbeats 6400000 in
theorem mef_yes (va vb : Value) (l l' : List Mr) (w : World) (h : IsMr w va l) (h2 : IsMr w vb l') (hl : l.map (·.1) = l'.map (·.1)) :
    Calls Try.prog 49 #[va, vb, .func (.func 50) #[] #[]] w fun e w' => e = .returned (.bool true) ∧ Below w.heap.size w w' := by
  obtain ⟨xa, c, rfl, -, -, -⟩ := id h.1
  obtain ⟨xb, c', rfl, -, -, -⟩ := id h2.1
  obtain ⟨-, hc, hm, hx⟩ := h.1.at
  obtain ⟨-, hc', hm', hx'⟩ := h2.1.at
  have hll : l'.length = l.length := by have := congrArg List.length hl; rw [List.length_map, List.length_map] at this; exact this.symm
  obtain ⟨m, hmE⟩ : ∃ m, m = l.length := ⟨_, rfl⟩
  rw [hll] at hc' hx' ⊢
  rw [← hmE] at hc hx hc' hx' ⊢
  have Hx := Lib.hid hx
  have Hx' := Lib.hid hx'
  have Hm := Lib.hid hmE
  have Hl := Lib.hid hl
  have Hr1 := Lib.hid h.2
  have Hr2 := Lib.hid h2.2
  have Hll := Lib.hid hll
  clear h h2 hx hx' hmE hl hll
  go_enter Try.func49, Try.ntmps49
  go_wp2_with fail
  go_loopw [17] (fun iv wr => ∃ i : Nat, i ≤ m ∧ iv = .int .i64 i ∧ Below w.heap.size w wr) (fun iv _ => m - (intOf iv).toNat)
  case atStart => exact ⟨0, Nat.zero_le _, rfl, Below.refl _ _⟩
  case round =>
    obtain ⟨wo, rfl⟩ : ∃ wo : World, wo = wr := ⟨_, rfl⟩
    obtain ⟨i, hi, rfl, hb⟩ := hrel
    by_cases him : i < m
    · obtain ⟨b1, off1, rfl, hc1⟩ := Hx.out (by omega)
      obtain ⟨b2, off2, rfl, hc2⟩ := Hx'.out (by omega)
      obtain ⟨r, hr⟩ : ∃ r, l[i]? = some r := ⟨_, List.getElem?_eq_getElem (by rw [← Hm.out]; exact him)⟩
      obtain ⟨s, hs⟩ : ∃ s, l'[i]? = some s := ⟨_, List.getElem?_eq_getElem (by rw [Hll.out, ← Hm.out]; exact him)⟩
      have hrs : r.1 = s.1 := by
        have h1 : (l.map (·.1))[i]? = some r.1 := by rw [List.getElem?_map, hr]; rfl
        have h2 : (l'.map (·.1))[i]? = some s.1 := by rw [List.getElem?_map, hs]; rfl
        rw [Hl.out, h2] at h1
        injection h1 with h1
        exact h1.symm
      obtain ⟨d0, d1, d2, d3, d4, d5, d6, d7, d8⟩ := IsMr.row (w := wo) (fun i x hi j y hj => (hb.cell (block_lt_of_cell (hc1 i x hi j y hj))).trans (hc1 i x hi j y hj)) hr
      have hkk := fun (W : World) (hW : Below wo.heap.size wo W) => IsMr.row (w := W) (fun i x hi j y hj => ((hb.trans (hW.mono hb.size)).cell (block_lt_of_cell (hc2 i x hi j y hj))).trans (hc2 i x hi j y hj)) hs
      have ir := (Hr1.out r (List.mem_of_getElem? hr)).below hb
      have is := (Hr2.out s (List.mem_of_getElem? hs)).below hb
      obtain ⟨⟨z, n, ⟨au, asq, ak⟩, ⟨bu, bsq, bk⟩, refs⟩, vr⟩ := r
      obtain ⟨m2, vs⟩ := s
      dsimp only at hrs
      subst hrs
      dsimp only at d0 d1 d2 d3 d4 d5 d6 d7 d8 hkk ir is
      obtain ⟨ra, rc, hrv, -, -, -⟩ := id ir
      obtain ⟨sa, sc, hsv, -, -, -⟩ := id is
      subst hrv hsv
      have hA : Below wo.heap.size wo (wo.alloc (.cells #[.int .i64 z, .int .i64 n, .string au, .int .i64 asq, .int .i64 ak, .string bu, .int .i64 bsq, .int .i64 bk, .slice ra refs.length rc] 26)) := (Below.refl _ _).alloc (Nat.le_refl _) _
      have hB : Below wo.heap.size wo ((wo.alloc (.cells #[.int .i64 z, .int .i64 n, .string au, .int .i64 asq, .int .i64 ak, .string bu, .int .i64 bsq, .int .i64 bk, .slice ra refs.length rc] 26)).alloc (.cells #[.int .i64 z, .int .i64 n, .string au, .int .i64 asq, .int .i64 ak, .string bu, .int .i64 bsq, .int .i64 bk, .slice sa refs.length sc] 26)) := hA.alloc (by simp) _
      obtain ⟨k0, k1, k2, k3, k4, k5, k6, k7, k8⟩ := hkk _ hA
      have HE := Lib.hid (mequal_yes z n ⟨au, asq, ak⟩ ⟨bu, bsq, bk⟩ _ _ refs _ (ir.below hB) (is.below hB))
      have hM := blk_old (blk_of_alloc wo (.cells #[.int .i64 z, .int .i64 n, .string au, .int .i64 asq, .int .i64 ak, .string bu, .int .i64 bsq, .int .i64 bk, .slice ra refs.length rc] 26)) (.cells #[.int .i64 z, .int .i64 n, .string au, .int .i64 asq, .int .i64 ak, .string bu, .int .i64 bsq, .int .i64 bk, .slice sa refs.length sc] 26)
      have hN : ((wo.alloc (.cells #[.int .i64 z, .int .i64 n, .string au, .int .i64 asq, .int .i64 ak, .string bu, .int .i64 bsq, .int .i64 bk, .slice ra refs.length rc] 26)).alloc (.cells #[.int .i64 z, .int .i64 n, .string au, .int .i64 asq, .int .i64 ak, .string bu, .int .i64 bsq, .int .i64 bk, .slice sa refs.length sc] 26)).heap[wo.heap.size + 1]? = _ := blk_new (by simp only [World.size_alloc]) _
      have f0 := (cell_of_blk hM 0).trans (show _ = some (.int .i64 z) from rfl)
      have f1 := (cell_of_blk hM 1).trans (show _ = some (.int .i64 n) from rfl)
      have f2 := (cell_of_blk hM 2).trans (show _ = some (.string au) from rfl)
      have f3 := (cell_of_blk hM 3).trans (show _ = some (.int .i64 asq) from rfl)
      have f4 := (cell_of_blk hM 4).trans (show _ = some (.int .i64 ak) from rfl)
      have f5 := (cell_of_blk hM 5).trans (show _ = some (.string bu) from rfl)
      have f6 := (cell_of_blk hM 6).trans (show _ = some (.int .i64 bsq) from rfl)
      have f7 := (cell_of_blk hM 7).trans (show _ = some (.int .i64 bk) from rfl)
      have f8 := (cell_of_blk hM 8).trans (show _ = some (.slice ra refs.length rc) from rfl)
      have g0 := (cell_of_blk hN 0).trans (show _ = some (.int .i64 z) from rfl)
      have g1 := (cell_of_blk hN 1).trans (show _ = some (.int .i64 n) from rfl)
      have g2 := (cell_of_blk hN 2).trans (show _ = some (.string au) from rfl)
      have g3 := (cell_of_blk hN 3).trans (show _ = some (.int .i64 asq) from rfl)
      have g4 := (cell_of_blk hN 4).trans (show _ = some (.int .i64 ak) from rfl)
      have g5 := (cell_of_blk hN 5).trans (show _ = some (.string bu) from rfl)
      have g6 := (cell_of_blk hN 6).trans (show _ = some (.int .i64 bsq) from rfl)
      have g7 := (cell_of_blk hN 7).trans (show _ = some (.int .i64 bk) from rfl)
      have g8 := (cell_of_blk hN 8).trans (show _ = some (.slice sa refs.length sc) from rfl)
      have Hb := Lib.hid (hb.trans (hB.mono hb.size))
      unfold metaV at HE
      clear hb hc1 hc2 hr hs ir is hkk hM hN hA hB
      generalize refs.length = rn at *
      go_wp2_with fail
      refine HE.out.mono ?_
      rintro e w2 ⟨rfl, hb2⟩
      have Hb2 := Lib.hid (Hb.out.trans (hb2.mono Hb.out.size))
      clear f0 f1 f2 f3 f4 f5 f6 f7 f8 g0 g1 g2 g3 g4 g5 g6 g7 g8 HE hb2
      go_wp2
      go_roundw
      case rel => exact ⟨i + 1, by omega, by go_num, Hb2.out⟩
      case measure => simp [intOf]; omega
    · obtain rfl : i = m := by omega
      have Hb := Lib.hid hb
      clear hb
      go_wp2
      go_ret
      exact ⟨rfl, Hb.out⟩
set_option maxHeartbeats 6400000 in
/-- the first N levels are alike; the next one, if there is one, has another number of tables -/
theorem vequal_any (U V : Vn) (N : Nat) (w : World) (hU : IsVn w U) (hV : IsVn w V) (hN : N ≤ 4) (heq : ∀ n, n < N → (U.l n).map (·.1) = (V.l n).map (·.1)) (hne : N < 4 → (U.l N).length ≠ (V.l N).length) :
    Calls Try.prog 29 #[.agg U.cells, .agg V.cells] w fun e w' => e = .returned (.bool (decide (N = 4))) ∧ Below w.heap.size w w' := by
  have hB : Below w.heap.size w ((w.alloc (.cells U.cells 48)).alloc (.cells V.cells 48)) := ((Below.refl _ _).alloc (Nat.le_refl _) _).alloc (by simp) _
  have HU := Lib.hid (blk_old (blk_of_alloc w (.cells U.cells 48)) (.cells V.cells 48))
  have HV : Hid (((w.alloc (.cells U.cells 48)).alloc (.cells V.cells 48)).heap[w.heap.size + 1]? = some (.cells V.cells 48 (0, 0))) := Lib.hid (blk_new (by simp only [World.size_alloc]) _)
  have HB := Lib.hid hB
  have IU := Lib.hid hU
  have IV := Lib.hid hV
  have Heq := Lib.hid heq
  have Hne := Lib.hid hne
  obtain ⟨cu, hcu⟩ : ∃ cu, cu = U.cells := ⟨_, rfl⟩
  obtain ⟨cv, hcv⟩ : ∃ cv, cv = V.cells := ⟨_, rfl⟩
  rw [← hcu] at HU HB HV ⊢
  rw [← hcv] at HU HB HV ⊢
  have Hcu := Lib.hid hcu
  have Hcv := Lib.hid hcv
  clear hB hU hV heq hne hcu hcv
  go_enter Try.func29, Try.ntmps29
  go_wp2_with fail
  generalize (w.alloc (.cells cu 48)).alloc (.cells cv 48) = W at *
  go_loopw [6] (fun nv wr => ∃ n : Nat, n ≤ N ∧ nv = .int .i64 n ∧ Below W.heap.size W wr) (fun nv _ => 4 - (intOf nv).toNat)
  case atStart => exact ⟨0, Nat.zero_le _, rfl, Below.refl _ _⟩
  case round =>
    obtain ⟨wo, rfl⟩ : ∃ wo : World, wo = wr := ⟨_, rfl⟩
    obtain ⟨n, hn, rfl, hb⟩ := hrel
    have Hb := Lib.hid hb
    by_cases hn4 : n < 4
    · have hni : (n : Int) < 4 := by omega
      have hbw := HB.out.trans (hb.mono HB.out.size)
      have iu := (IU.out n hn4).below hbw
      have iv := (IV.out n hn4).below hbw
      obtain ⟨sa, sc, hsu⟩ := isMr_slice iu
      obtain ⟨ta, tc, hsx⟩ := isMr_slice iv
      have hcu := cell_regrown ((cell_of_blk (blk_bels hb HU.out) n).trans (by rw [Hcu.out]; exact (vn_cell U hn4).trans (by rw [hsu])))
      have hcx := cell_regrown ((cell_of_blk (blk_bels hb HV.out) n).trans (by rw [Hcv.out]; exact (vn_cell V hn4).trans (by rw [hsx])))
      by_cases hnN : n < N
      · have HE : Hid (∀ (d : Nat) (os : Array Obj), Calls Try.prog 49 #[.slice sa (U.l n).length sc, .slice ta (V.l n).length tc, .func (.func 50) #[] #[]] (grow (redrawn wo d) os) fun e w'' => e = .returned (.bool true) ∧ ∃ p : Regrown, w'' = grow (redrawn wo p.d) p.os) :=
          Lib.hid fun d os => Calls.regrown_of (by rw [hsu] at iu; rw [hsx] at iv; exact mef_yes _ _ _ _ _ (iu.below (below_regrown wo d os)) (iv.below (below_regrown wo d os)) (Heq.out n hnN))
        clear hb hbw iu iv hsu hsx
        generalize (U.l n).length = n1 at *
        generalize (V.l n).length = n2 at *
        go_wp2_with fail
        refine wp_region_quiet_below (by kernel_rfl) (by kernel_rfl) ?_
        repeat (go_big_quiet_step (first | with_reducible exact HE.out _ _))
        refine wpQuiet_nil ?_
        intro _ hw'
        obtain ⟨⟨dq, osq⟩, hw''⟩ := hw'
        subst hw''
        have hbq := Lib.hid (Hb.out.trans ((below_regrown wo dq osq).mono Hb.out.size))
        clear hcu hcx HE
        go_wp2
        go_roundw
        case rel => exact ⟨n + 1, by omega, by go_num, hbq.out⟩
        case measure => simp [intOf]; omega
      · obtain rfl : n = N := by omega
        have HE : Hid (∀ (d : Nat) (os : Array Obj), Calls Try.prog 49 #[.slice sa (U.l n).length sc, .slice ta (V.l n).length tc, .func (.func 50) #[] #[]] (grow (redrawn wo d) os) fun e w'' => e = .returned (.bool false) ∧ ∃ p : Regrown, w'' = grow (redrawn wo p.d) p.os) :=
          Lib.hid fun d os => Calls.regrown_of ((mef_len _ _ _ _ _ _ _ _ (Hne.out hn4)).mono fun e w' ⟨q, e2⟩ => ⟨q, by rw [← e2]; exact Below.refl _ _⟩)
        clear hb hbw iu iv hsu hsx
        generalize (U.l n).length = n1 at *
        generalize (V.l n).length = n2 at *
        go_wp2_with fail
        refine wp_region_quiet_below (by kernel_rfl) (by kernel_rfl) ?_
        repeat (go_big_quiet_step (first | with_reducible exact HE.out _ _))
        refine wpQuiet_nil ?_
        intro _ hw'
        obtain ⟨⟨dq, osq⟩, hw''⟩ := hw'
        subst hw''
        have hbq := Lib.hid (HB.out.trans ((Hb.out.trans ((below_regrown wo dq osq).mono Hb.out.size)).mono HB.out.size))
        have Hd : Hid (decide (n = 4) = false) := Lib.hid (decide_eq_false (by omega))
        clear hcu hcx HE
        go_wp2
        go_ret
        exact ⟨by rw [Hd.out]; rfl, hbq.out⟩
    · obtain rfl : n = 4 := by omega
      obtain rfl : N = 4 := by omega
      have hbq := Lib.hid (HB.out.trans (hb.mono HB.out.size))
      clear hb
      go_wp2
      go_ret
      exact ⟨rfl, hbq.out⟩
end Go.Proofs.Ytjefpogeknbelaa.Tithe
