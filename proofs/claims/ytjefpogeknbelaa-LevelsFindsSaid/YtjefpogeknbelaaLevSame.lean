/- The law's equal and same of like metas; small: walked. -/
import Derived.Test.YtjefpogeknbelaaLevTurn
import Derived.Test.YtjefpogeknbelaaLevOpen
import Derived.BigQuiet
namespace Go.Proofs.Ytjefpogeknbelaa.Tithe
open Go.RowKit Go.Sort Go.Shelf
set_option linter.unusedVariables false
set_option linter.unusedSimpArgs false
set_option maxRecDepth 100000
attribute [local go_sem] Oper.semAt_some
theorem IsRr.two {w : World} {b off : Nat} {l : List (Int × Int)} (h : ∀ i x, l[i]? = some x → ∀ j y, (rfC x)[j]? = some y → w.cell? ⟨b, off + i * 2 + j, none⟩ = some y) {i : Nat} {x : Int × Int} (hx : l[i]? = some x) :
    w.cell? ⟨b, off + i * 2, none⟩ = some (.int .i64 x.1) ∧ w.cell? ⟨b, off + i * 2 + 1, none⟩ = some (.int .i64 x.2) := ⟨h i x hx 0 _ rfl, h i x hx 1 _ rfl⟩
set_option maxHeartbeats 3200000 in
theorem equal_yes (z n : Int) (a b : Ky) (va vb : Value) (l : List (Int × Int)) (w : World) (h : IsRr w va l) (h2 : IsRr w vb l) :
    Calls Try.prog 48 #[metaV z n a b va, metaV z n a b vb] w fun e w' => e = .returned (.bool true) ∧ Below w.heap.size w w' := by
  obtain ⟨xa, c, rfl, -, -, -⟩ := id h
  obtain ⟨xb, c', rfl, -, -, -⟩ := id h2
  obtain ⟨-, hc, hm, hx⟩ := h.at
  obtain ⟨-, hc', hm', hx'⟩ := h2.at
  obtain ⟨m, hmE⟩ : ∃ m, m = l.length := ⟨_, rfl⟩
  unfold metaV
  rw [← hmE] at hc hx hc' hx' ⊢
  have Hx := Lib.hid hx
  have Hx' := Lib.hid hx'
  have Hm := Lib.hid hmE
  clear h h2 hx hx' hmE
  obtain ⟨au, asq, ak⟩ := a
  obtain ⟨bu, bsq, bk⟩ := b
  have hM := blk_old (blk_of_alloc w (.cells #[.int .i64 z, .int .i64 n, .string au, .int .i64 asq, .int .i64 ak, .string bu, .int .i64 bsq, .int .i64 bk, .slice xa m c] 26)) (.cells #[.int .i64 z, .int .i64 n, .string au, .int .i64 asq, .int .i64 ak, .string bu, .int .i64 bsq, .int .i64 bk, .slice xb m c'] 35)
  have hN := blk_of_alloc (w.alloc (.cells #[.int .i64 z, .int .i64 n, .string au, .int .i64 asq, .int .i64 ak, .string bu, .int .i64 bsq, .int .i64 bk, .slice xa m c] 26)) (.cells #[.int .i64 z, .int .i64 n, .string au, .int .i64 asq, .int .i64 ak, .string bu, .int .i64 bsq, .int .i64 bk, .slice xb m c'] 35)
  simp only [World.size_alloc] at hN
  have hB : Below w.heap.size w ((w.alloc (.cells #[.int .i64 z, .int .i64 n, .string au, .int .i64 asq, .int .i64 ak, .string bu, .int .i64 bsq, .int .i64 bk, .slice xa m c] 26)).alloc (.cells #[.int .i64 z, .int .i64 n, .string au, .int .i64 asq, .int .i64 ak, .string bu, .int .i64 bsq, .int .i64 bk, .slice xb m c'] 35)) := ((Below.refl _ _).alloc (Nat.le_refl _) _).alloc (by simp) _
  have HM := Lib.hid hM
  have HN := Lib.hid hN
  have HB := Lib.hid hB
  clear hM hN hB
  go_enter Try.func48, Try.ntmps48
  go_upto_region 1 with fail
  generalize hW : (w.alloc (.cells #[.int .i64 z, .int .i64 n, .string au, .int .i64 asq, .int .i64 ak, .string bu, .int .i64 bsq, .int .i64 bk, .slice xa m c] 26)).alloc (.cells #[.int .i64 z, .int .i64 n, .string au, .int .i64 asq, .int .i64 ak, .string bu, .int .i64 bsq, .int .i64 bk, .slice xb m c'] 35) = W at *
  clear hW
  have f0 := cell_regrown (cell_of_blk HM.out 0)
  have f1 := cell_regrown (cell_of_blk HM.out 1)
  have f2 := cell_regrown (cell_of_blk HM.out 2)
  have f3 := cell_regrown (cell_of_blk HM.out 3)
  have f4 := cell_regrown (cell_of_blk HM.out 4)
  have f5 := cell_regrown (cell_of_blk HM.out 5)
  have f6 := cell_regrown (cell_of_blk HM.out 6)
  have f7 := cell_regrown (cell_of_blk HM.out 7)
  have f8 := cell_regrown (cell_of_blk HM.out 8)
  have g0 := cell_regrown (cell_of_blk HN.out 0)
  have g1 := cell_regrown (cell_of_blk HN.out 1)
  have g2 := cell_regrown (cell_of_blk HN.out 2)
  have g3 := cell_regrown (cell_of_blk HN.out 3)
  have g4 := cell_regrown (cell_of_blk HN.out 4)
  have g5 := cell_regrown (cell_of_blk HN.out 5)
  have g6 := cell_regrown (cell_of_blk HN.out 6)
  have g7 := cell_regrown (cell_of_blk HN.out 7)
  have g8 := cell_regrown (cell_of_blk HN.out 8)
  have HA : Hid (∀ (d : Nat) (os : Array Obj), Calls Try.prog 37 #[.agg #[.string au, .int .i64 asq, .int .i64 ak]] (grow (redrawn W d) os) fun e w'' => e = .returned (.agg #[.string au, .int .i64 asq, .int .i64 ak]) ∧ ∃ p : Regrown, w'' = grow (redrawn W p.d) p.os) := Lib.hid fun d os => Calls.regrown_of (refKey_any ⟨au, asq, ak⟩ _)
  have HK : Hid (∀ (d : Nat) (os : Array Obj), Calls Try.prog 37 #[.agg #[.string bu, .int .i64 bsq, .int .i64 bk]] (grow (redrawn W d) os) fun e w'' => e = .returned (.agg #[.string bu, .int .i64 bsq, .int .i64 bk]) ∧ ∃ p : Regrown, w'' = grow (redrawn W p.d) p.os) := Lib.hid fun d os => Calls.regrown_of (refKey_any ⟨bu, bsq, bk⟩ _)
  refine wp_region_quiet_below (by kernel_rfl) (by kernel_rfl) ?_
  repeat (go_big_quiet_step (first | with_reducible exact HA.out _ _ | with_reducible exact HK.out _ _))
  refine wpQuiet_nil ?_
  intro _ hw'
  obtain ⟨⟨dq, osq⟩, hw''⟩ := hw'
  subst hw''
  have hbq : Below w.heap.size w (grow (redrawn W dq) osq) := HB.out.trans ((below_regrown W dq osq).mono HB.out.size)
  have HM2 := Lib.hid (blk_bels (below_regrown W dq osq) HM.out)
  have HN2 := Lib.hid (blk_bels (below_regrown W dq osq) HN.out)
  have HB2 := Lib.hid hbq
  clear hbq f0 f1 f2 f3 f4 f5 f6 f7 f8 g0 g1 g2 g3 g4 g5 g6 g7 g8 HM HN HB HA HK
  generalize (grow (redrawn W dq) osq) = U at *
  have f8 := (cell_of_blk HM2.out 8).trans (show _ = some (.slice xa m c) from rfl)
  have g8 := (cell_of_blk HN2.out 8).trans (show _ = some (.slice xb m c') from rfl)
  go_wp2_with fail
  go_loopw [47] (fun iv wr => ∃ i : Nat, i ≤ m ∧ iv = .int .i64 i ∧ Below w.heap.size w wr ∧ wr.heap[w.heap.size + 1]? = some (.cells #[.int .i64 z, .int .i64 n, .string au, .int .i64 asq, .int .i64 ak, .string bu, .int .i64 bsq, .int .i64 bk, .slice xb m c'] 35 (0, 0))) (fun iv _ => m - (intOf iv).toNat)
  case atStart => exact ⟨0, Nat.zero_le _, rfl, HB2.out, HN2.out⟩
  case round =>
    obtain ⟨wo, rfl⟩ : ∃ wo : World, wo = wr := ⟨_, rfl⟩
    obtain ⟨i, hi, rfl, hb, hn⟩ := hrel
    clear f8 g8
    by_cases him : i < m
    · obtain ⟨b1, off1, rfl, hc1⟩ := Hx.out (by omega)
      obtain ⟨b2, off2, rfl, hc2⟩ := Hx'.out (by omega)
      obtain ⟨r, hr⟩ : ∃ r, l[i]? = some r := ⟨_, List.getElem?_eq_getElem (by rw [← Hm.out]; exact him)⟩
      obtain ⟨d0, d1⟩ := IsRr.two (w := wo) (fun i x hi j y hj => (hb.cell (block_lt_of_cell (hc1 i x hi j y hj))).trans (hc1 i x hi j y hj)) hr
      obtain ⟨k0, k1⟩ := IsRr.two (w := wo) (fun i x hi j y hj => (hb.cell (block_lt_of_cell (hc2 i x hi j y hj))).trans (hc2 i x hi j y hj)) hr
      obtain ⟨rz, rb⟩ := r
      dsimp only at d0 d1 k0 k1
      have hR := blk_of_alloc wo (.cells #[.int .i64 rz, .int .i64 rb] 55)
      have r0 := (cell_of_blk hR 0).trans (show _ = some (.int .i64 rz) from rfl)
      have r1 := (cell_of_blk hR 1).trans (show _ = some (.int .i64 rb) from rfl)
      have e8 := (cell_of_blk (blk_old hn (.cells #[.int .i64 rz, .int .i64 rb] 55)) 8).trans (show _ = some (.slice (some ⟨b2, off2, none⟩) m c') from rfl)
      have k0' := (((Below.refl wo.heap.size wo).alloc (Nat.le_refl _) (.cells #[.int .i64 rz, .int .i64 rb] 55)).cell (block_lt_of_cell k0)).trans k0
      have k1' := (((Below.refl wo.heap.size wo).alloc (Nat.le_refl _) (.cells #[.int .i64 rz, .int .i64 rb] 55)).cell (block_lt_of_cell k1)).trans k1
      have Hb := Lib.hid (hb.alloc hb.size (.cells #[.int .i64 rz, .int .i64 rb] 55))
      have Hn := Lib.hid (blk_old hn (.cells #[.int .i64 rz, .int .i64 rb] 55))
      clear hb hn hc1 hc2 hr hR k0 k1
      go_wp2_with fail
      go_quiet (fail)
      go_wp2
      go_roundw
      case rel => exact ⟨i + 1, by omega, by go_num, below_drewN Hb.out _, Hn.out⟩
      case measure => simp [intOf]; omega
    · obtain rfl : i = m := by omega
      have Hb := Lib.hid hb
      clear hb hn
      go_wp2
      go_ret
      exact ⟨rfl, Hb.out⟩

set_option maxHeartbeats 3200000 in
theorem same_yes (va vb : Value) (l l' : List Mr) (w : World) (h : IsMr w va l) (h2 : IsMr w vb l') (hl : l.map (·.1) = l'.map (·.1)) :
    Calls Try.prog 19 #[va, vb] w fun e w' => e = .returned (.bool true) ∧ Below w.heap.size w w' := by
  obtain ⟨xa, c, rfl, -, -, -⟩ := id h.1
  obtain ⟨xb, c', rfl, -, -, -⟩ := id h2.1
  obtain ⟨-, hc, hm, hx⟩ := h.1.at
  obtain ⟨-, hc', hm', hx'⟩ := h2.1.at
  have hll : l'.length = l.length := by have := congrArg List.length hl; rw [List.length_map, List.length_map] at this; exact this.symm
  obtain ⟨m, hmE⟩ : ∃ m, m = l.length := ⟨_, rfl⟩
  rw [hll] at hc' hx' ⊢
  rw [← hmE] at hc hx hc' hx' ⊢
  have Hx := Lib.hid hx
  have Hx' := Lib.hid hx'
  have Hm := Lib.hid hmE
  have Hl := Lib.hid hl
  have Hr1 := Lib.hid h.2
  have Hr2 := Lib.hid h2.2
  have Hll := Lib.hid hll
  clear h h2 hx hx' hmE hl hll
  go_enter Try.func19, Try.ntmps19
  go_wp2_with fail
  go_loopw [13] (fun iv wr => ∃ i : Nat, i ≤ m ∧ iv = .int .i64 i ∧ Below w.heap.size w wr) (fun iv _ => m - (intOf iv).toNat)
  case atStart => exact ⟨0, Nat.zero_le _, rfl, Below.refl _ _⟩
  case round =>
    obtain ⟨wo, rfl⟩ : ∃ wo : World, wo = wr := ⟨_, rfl⟩
    obtain ⟨i, hi, rfl, hb⟩ := hrel
    by_cases him : i < m
    · obtain ⟨b1, off1, rfl, hc1⟩ := Hx.out (by omega)
      obtain ⟨b2, off2, rfl, hc2⟩ := Hx'.out (by omega)
      obtain ⟨r, hr⟩ : ∃ r, l[i]? = some r := ⟨_, List.getElem?_eq_getElem (by rw [← Hm.out]; exact him)⟩
      obtain ⟨s, hs⟩ : ∃ s, l'[i]? = some s := ⟨_, List.getElem?_eq_getElem (by rw [Hll.out, ← Hm.out]; exact him)⟩
      have hrs : r.1 = s.1 := by
        have h1 : (l.map (·.1))[i]? = some r.1 := by rw [List.getElem?_map, hr]; rfl
        have h2 : (l'.map (·.1))[i]? = some s.1 := by rw [List.getElem?_map, hs]; rfl
        rw [Hl.out, h2] at h1
        injection h1 with h1
        exact h1.symm
      obtain ⟨d0, d1, d2, d3, d4, d5, d6, d7, d8⟩ := IsMr.row (w := wo) (fun i x hi j y hj => (hb.cell (block_lt_of_cell (hc1 i x hi j y hj))).trans (hc1 i x hi j y hj)) hr
      obtain ⟨k0, k1, k2, k3, k4, k5, k6, k7, k8⟩ := IsMr.row (w := wo) (fun i x hi j y hj => (hb.cell (block_lt_of_cell (hc2 i x hi j y hj))).trans (hc2 i x hi j y hj)) hs
      have ir := (Hr1.out r (List.mem_of_getElem? hr)).below hb
      have is := (Hr2.out s (List.mem_of_getElem? hs)).below hb
      obtain ⟨⟨z, n, ⟨au, asq, ak⟩, ⟨bu, bsq, bk⟩, refs⟩, vr⟩ := r
      obtain ⟨m2, vs⟩ := s
      dsimp only at hrs
      subst hrs
      dsimp only at d0 d1 d2 d3 d4 d5 d6 d7 d8 k0 k1 k2 k3 k4 k5 k6 k7 k8 ir is
      obtain ⟨ra, rc, hrv, -, -, -⟩ := id ir
      obtain ⟨sa, sc, hsv, -, -, -⟩ := id is
      subst hrv hsv
      have f0 := cell_regrown d0
      have f1 := cell_regrown d1
      have f2 := cell_regrown d2
      have f3 := cell_regrown d3
      have f4 := cell_regrown d4
      have f5 := cell_regrown d5
      have f6 := cell_regrown d6
      have f7 := cell_regrown d7
      have f8 := cell_regrown d8
      have g0 := cell_regrown k0
      have g1 := cell_regrown k1
      have g2 := cell_regrown k2
      have g3 := cell_regrown k3
      have g4 := cell_regrown k4
      have g5 := cell_regrown k5
      have g6 := cell_regrown k6
      have g7 := cell_regrown k7
      have g8 := cell_regrown k8
      have HE : Hid (∀ (d : Nat) (os : Array Obj), Calls Try.prog 48 #[.agg #[.int .i64 z, .int .i64 n, .string au, .int .i64 asq, .int .i64 ak, .string bu, .int .i64 bsq, .int .i64 bk, .slice ra refs.length rc], .agg #[.int .i64 z, .int .i64 n, .string au, .int .i64 asq, .int .i64 ak, .string bu, .int .i64 bsq, .int .i64 bk, .slice sa refs.length sc]] (grow (redrawn wo d) os) fun e w'' => e = .returned (.bool true) ∧ ∃ p : Regrown, w'' = grow (redrawn wo p.d) p.os) :=
        Lib.hid fun d os => Calls.regrown_of (equal_yes z n ⟨au, asq, ak⟩ ⟨bu, bsq, bk⟩ _ _ refs _ (ir.below (below_regrown wo d os)) (is.below (below_regrown wo d os)))
      have Hb := Lib.hid hb
      clear hb hc1 hc2 hr hs ir is d0 d1 d2 d3 d4 d5 d6 d7 d8 k0 k1 k2 k3 k4 k5 k6 k7 k8
      generalize refs.length = rn at *
      go_wp2_with fail
      refine wp_region_quiet_below (by kernel_rfl) (by kernel_rfl) ?_
      repeat (go_big_quiet_step (first | with_reducible exact HE.out _ _))
      refine wpQuiet_nil ?_
      intro _ hw'
      obtain ⟨⟨dq, osq⟩, hw''⟩ := hw'
      subst hw''
      have hbq := Lib.hid (Hb.out.trans ((below_regrown wo dq osq).mono Hb.out.size))
      clear f0 f1 f2 f3 f4 f5 f6 f7 f8 g0 g1 g2 g3 g4 g5 g6 g7 g8 HE
      go_wp2
      go_roundw
      case rel => exact ⟨i + 1, by omega, by go_num, hbq.out⟩
      case measure => simp [intOf]; omega
    · obtain rfl : i = m := by omega
      have Hb := Lib.hid hb
      clear hb
      go_wp2
      go_ret
      exact ⟨rfl, Hb.out⟩
end Go.Proofs.Ytjefpogeknbelaa.Tithe
