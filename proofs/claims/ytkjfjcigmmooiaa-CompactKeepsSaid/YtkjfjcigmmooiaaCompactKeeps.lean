/- The law CompactKeeps: walked. -/
import Derived.Test.YtkjfjcigmmooiaaEntKeepsC
namespace Go.Proofs.Ytkjfjcigmmooiaa.Tithe
open Go.RowKit Go.Sort Go.Shelf
set_option linter.unusedVariables false
set_option linter.unusedSimpArgs false
set_option maxRecDepth 100000
theorem neq_re (u : ByteArray) (s k : Int) (v : ByteArray) (W : World) : (binOp .neq 67 (.agg #[.string u, .int .i64 s, .int .i64 k, .string v]) (.agg #[.string u, .int .i64 s, .int .i64 k, .string v])).run Try.prog W = .ok (.bool false) W := by
  go_simp
attribute [local go_sem] Oper.semAt_some
set_option maxHeartbeats 6400000 in
theorem compactKeeps_walk (v0 v1 v4 : Value) (l : List En) (zs : List Int) (a b : Int) (ss : List ByteArray) (w : World) (h0 : IsEs w v0 l) (h1 : IsZs w v1 zs) (h4 : IsSx w v4 ss) :
    Calls Try.prog 5 #[.agg #[v0, v1, .int .i64 a, .int .i64 b, v4]] w fun e w' => e = .returned (.bool true) ∧ Below w.heap.size w w' := by
  obtain ⟨a0, c0, rfl, -, -, -⟩ := id h0
  obtain ⟨a1, c1, rfl, -, -, -⟩ := id h1
  obtain ⟨-, hc0, hm0, hx0⟩ := h0.at
  obtain ⟨-, hc1, hm1, -⟩ := h1.at
  obtain ⟨n0, hn0⟩ : ∃ n, n = l.length := ⟨_, rfl⟩
  obtain ⟨n1, hn1⟩ : ∃ n, n = zs.length := ⟨_, rfl⟩
  rw [← hn0] at hc0 h0 hx0 ⊢
  rw [← hn1] at hc1 h1 ⊢
  have H0 := Lib.hid h0
  have H1 := Lib.hid h1
  have H4 := Lib.hid h4
  have Hx0 := Lib.hid hx0
  have Hn0 := Lib.hid hn0
  have Hn1 := Lib.hid hn1
  have HB1 := Lib.hid (blk_of_alloc w (.cells #[.slice a0 n0 c0, .slice a1 n1 c1, .int .i64 a, .int .i64 b, v4] 54))
  have Hb1 := Lib.hid ((Below.refl w.heap.size w).alloc (Nat.le_refl _) (.cells #[.slice a0 n0 c0, .slice a1 n1 c1, .int .i64 a, .int .i64 b, v4] 54))
  clear h0 h1 h4 hx0 hn0 hn1
  obtain ⟨bx, hbx⟩ : ∃ o, o = w.heap.size := ⟨_, rfl⟩
  have Hbx := Lib.hid hbx
  rw [← hbx] at HB1
  clear hbx
  go_enter Try.func5, Try.ntmps5
  go_upto_region 1 with fail
  rw [← Hbx.out]
  generalize w.alloc (.cells #[.slice a0 n0 c0, .slice a1 n1 c1, .int .i64 a, .int .i64 b, v4] 54) = W1 at *
  clear Hbx
  have c10 := (cell_of_blk HB1.out 0).trans (show _ = some (.slice a0 n0 c0) from rfl)
  have Hr := Lib.hid (right_any (.slice a0 n0 c0) l 60 W1 (H0.out.below Hb1.out))
  go_wp2_with fail
  refine Hr.out.mono ?_
  rintro e w2 ⟨rfl, hb2⟩
  have HB2 := Lib.hid (blk_bels hb2 HB1.out)
  have Hb2 := Lib.hid (Hb1.out.trans (hb2.mono Hb1.out.size))
  clear hb2 Hr c10 HB1 Hb1
  cases hr : rightE l 60 with
  | false =>
    go_wp2_with fail
    refine (awake_any _).mono ?_
    rintro e w3 ⟨rfl, hb3⟩
    go_wp2_with fail
    go_ret
    exact ⟨rfl, Hb2.out.trans (hb3.mono Hb2.out.size)⟩
  | true =>
    have c21 := (cell_of_blk HB2.out 1).trans (show _ = some (.slice a1 n1 c1) from rfl)
    by_cases hsn : 10 < n1
    · have d10 : decide ((n1 : Int) > 10) = true := decide_eq_true (by omega)
      have d10' : decide ((10 : Int) < (n1 : Int)) = true := decide_eq_true (by omega)
      go_wp2_with fail
      refine (awake_any _).mono ?_
      rintro e w3 ⟨rfl, hb3⟩
      go_wp2_with fail
      go_ret
      exact ⟨rfl, Hb2.out.trans (hb3.mono Hb2.out.size)⟩
    · have d10 : decide ((n1 : Int) > 10) = false := decide_eq_false (by omega)
      have d10' : decide ((10 : Int) < (n1 : Int)) = false := decide_eq_false (by omega)
      have HR := Lib.hid hr
      have hl60 := right_len hr
      rw [← Hn0.out] at hl60
      have hn60 : n0 ≤ 60 := by omega
      have c23 := (cell_of_blk HB2.out 3).trans (show _ = some (.int .i64 b) from rfl)
      have c24 := (cell_of_blk HB2.out 4).trans (show _ = some v4 from rfl)
      have Hv := Lib.hid (version_any b v4 ss w2 (H4.out.below Hb2.out))
      clear hr hl60 hsn
      go_wp2_with fail
      refine Hv.out.mono ?_
      rintro e w3 hq
      obtain ⟨V, rfl, hV, hb3⟩ := hq.out
      obtain ⟨xa0, xn0, xc0, xa1, xn1, xc1, xa2, xn2, xc2, xa3, xn3, xc3, hc⟩ := vn_agg hV
      rw [hc]
      have Hc := Lib.hid hc
      have HB3 := Lib.hid (blk_old (blk_bels hb3 HB2.out) (.cells #[.slice xa0 xn0 xc0, .slice xa1 xn1 xc1, .slice xa2 xn2 xc2, .slice xa3 xn3 xc3] 58))
      have hal : Below w3.heap.size w3 (w3.alloc (.cells #[.slice xa0 xn0 xc0, .slice xa1 xn1 xc1, .slice xa2 xn2 xc2, .slice xa3 xn3 xc3] 58)) := (Below.refl _ _).alloc (Nat.le_refl _) _
      have hb23 := Hb2.out.trans (hb3.mono Hb2.out.size)
      have Hb3 := Lib.hid (hb23.trans (hal.mono hb23.size))
      have HV3 := Lib.hid (hV.below hal)
      have HW3 := Lib.hid (blk_of_alloc w3 (.cells #[.slice xa0 xn0 xc0, .slice xa1 xn1 xc1, .slice xa2 xn2 xc2, .slice xa3 xn3 xc3] 58))
      obtain ⟨vb, hvb⟩ : ∃ o, o = w3.heap.size := ⟨_, rfl⟩
      have Hvb := Lib.hid hvb
      rw [← hvb] at HW3
      clear hq hc hal hb23 hb3 hV hvb d10 d10' c21 c23 c24 HB2 Hb2 Hv
      go_upto_region 4 with fail
      rw [← Hvb.out]
      generalize w3.alloc (.cells #[.slice xa0 xn0 xc0, .slice xa1 xn1 xc1, .slice xa2 xn2 xc2, .slice xa3 xn3 xc3] 58) = wB at *
      clear Hvb
      have kb0 := (cell_of_blk HB3.out 0).trans (show _ = some (.slice a0 n0 c0) from rfl)
      go_wp2_with fail
      clear kb0
      obtain ⟨dp, hdp⟩ : ∃ dp : ByteArray → Bool, dp = fun u => deepB (tabs V.l 4) a u := ⟨_, rfl⟩
      have Hdp := Lib.hid hdp
      clear hdp
      go_loopw [4, 30] (fun ov iv wr => ∃ k : Nat, k ≤ n0 ∧ iv = .int .i64 k ∧ (∃ oa on oc, on ≤ k ∧ ov = .slice oa on oc ∧ OwnSx wr wB.heap.size (.slice oa on oc) (deepL dp (l.take k))) ∧ Below wB.heap.size wB wr) (fun _ iv _ => n0 - (intOf iv).toNat)
      case atStart => exact ⟨0, Nat.zero_le _, rfl, ⟨none, 0, 0, Nat.le_refl _, rfl, World.ownsRow_nil _ _ _ _⟩, Below.refl _ _⟩
      case round =>
        obtain ⟨wo, rfl⟩ : ∃ wo : World, wo = wr := ⟨_, rfl⟩
        obtain ⟨k, hk, rfl, ⟨oa, on, oc, hon, rfl, hown⟩, hb⟩ := hrel
        have Hb := Lib.hid hb
        have Hown := Lib.hid hown
        clear hb hown
        by_cases hkn : k < n0
        · obtain ⟨be, off, rfl, hcell⟩ := Hx0.out (by omega)
          obtain ⟨x, hxk⟩ : ∃ x, l[k]? = some x := ⟨_, List.getElem?_eq_getElem (by rw [← Hn0.out]; exact hkn)⟩
          have hwo : Below w.heap.size w wo := Hb3.out.trans (Hb.out.mono Hb3.out.size)
          obtain ⟨d0, d1, d2, d3⟩ := IsEs.row (w := wo) (fun i x hi j y hj => (hwo.cell (block_lt_of_cell (hcell i x hi j y hj))).trans (hcell i x hi j y hj)) hxk
          have htk := deepL_succ dp hxk
          have Htk := Lib.hid htk
          clear hcell hxk htk hwo
          obtain ⟨⟨u, s, kd⟩, val⟩ := x
          dsimp only at d0 d1 d2 d3 Htk
          have hA : Below wo.heap.size wo (wo.alloc (.cells #[.string u, .int .i64 s, .int .i64 kd, .string val] 30)) := (Below.refl _ _).alloc (Nat.le_refl _) _
          have HS := Lib.hid (blk_of_alloc wo (.cells #[.string u, .int .i64 s, .int .i64 kd, .string val] 30))
          have HbW := Lib.hid (Hb.out.trans (hA.mono Hb.out.size))
          have HoW := Lib.hid (own_below Hown.out hA)
          obtain ⟨sb, hsb⟩ : ∃ o, o = wo.heap.size := ⟨_, rfl⟩
          have Hsb := Lib.hid hsb
          rw [← hsb] at HS
          clear hA hsb
          go_upto_region 8 with fail
          rw [← Hsb.out]
          generalize wo.alloc (.cells #[.string u, .int .i64 s, .int .i64 kd, .string val] 30) = W at *
          clear Hsb d0 d1 d2 d3
          have HBw := blk_bels HbW.out HB3.out
          have HVw := blk_bels HbW.out HW3.out
          have e0 := (cell_of_blk HS.out 0).trans (show _ = some (.string u) from rfl)
          have f2 := (cell_of_blk HBw 2).trans (show _ = some (.int .i64 a) from rfl)
          have g0 := (cell_of_blk HVw 0).trans (show _ = some (.slice xa0 xn0 xc0) from rfl)
          have g1 := (cell_of_blk HVw 1).trans (show _ = some (.slice xa1 xn1 xc1) from rfl)
          have g2 := (cell_of_blk HVw 2).trans (show _ = some (.slice xa2 xn2 xc2) from rfl)
          have g3 := (cell_of_blk HVw 3).trans (show _ = some (.slice xa3 xn3 xc3) from rfl)
          have hde := deeper_any V a u W (HV3.out.below HbW.out)
          rw [Hc.out, show deepB (tabs V.l 4) a u = dp u from by rw [Hdp.out]] at hde
          have HD := Lib.hid hde
          clear HBw HVw hde
          go_wp2_with fail
          refine HD.out.mono ?_
          rintro e w5 ⟨rfl, hb5⟩
          have Hb5 := Lib.hid (HbW.out.trans (hb5.mono HbW.out.size))
          have Ho5 := Lib.hid (own_below HoW.out hb5)
          have HS5 := Lib.hid (blk_bels hb5 HS.out)
          clear hb5 e0 f2 g0 g1 g2 g3 HD HS HoW HbW
          cases hdu : dp u with
          | false =>
            have Ht2 : Hid (deepL dp (l.take (k + 1)) = deepL dp (l.take k)) := Lib.hid (by rw [Htk.out, hdu]; simp)
            clear Htk hdu
            go_wp2_with fail
            go_roundw
            case rel => exact ⟨k + 1, by omega, by go_num, ⟨oa, on, oc, by omega, rfl, by rw [Ht2.out]; exact Ho5.out⟩, Hb5.out⟩
            case measure => simp [intOf]; omega
          | true =>
            have Ht2 : Hid (deepL dp (l.take (k + 1)) = deepL dp (l.take k) ++ [u]) := Lib.hid (by rw [Htk.out, hdu]; simp)
            obtain ⟨ya, yc, w6, hrun, hown2, hg2⟩ := push_sx w5 wB.heap.size oa on oc _ u Ho5.out (by omega) Hb5.out.size
            have Ho6 : Hid (OwnSx w6 wB.heap.size (.slice ya (on + 1) yc) (deepL dp (l.take (k + 1)))) := Lib.hid (by rw [Ht2.out]; exact hown2)
            have Hb6 : Hid (Below wB.heap.size wB w6) := Lib.hid ((Hb5.out.alloc Hb5.out.size _).grown hg2 (Nat.le_trans Hb5.out.size (by simp)) (fun g e => (Ho5.out.lt g e).1))
            have e0 := (cell_of_blk HS5.out 0).trans (show _ = some (.string u) from rfl)
            clear Htk hdu hown2 hg2 Ht2
            go_wp2_with (at_builtin; first | (refine wpList_val rfl _ _ (run_append_op (.tmp 41) (.tmp 45) 52 52 rfl rfl rfl hrun) ?_) | (refine wpList_val rfl _ _ (run_append_op (.tmp 41) (.tmp 45) 52 52 rfl (by simp) (by simp) hrun) ?_))
            go_roundw
            case rel => exact ⟨k + 1, by omega, by go_num, ⟨ya, on + 1, yc, by omega, rfl, Ho6.out⟩, Hb6.out⟩
            case measure => simp [intOf]; omega
        · obtain rfl : n0 = k := by omega
          have hdL : OwnSx wo wB.heap.size (.slice oa on oc) (deepL dp l) := by
            have := Hown.out
            rwa [Hn0.out, List.take_length] at this
          have HdL := Lib.hid hdL
          have hwo : Below w.heap.size w wo := Hb3.out.trans (Hb.out.mono Hb3.out.size)
          have hBo := blk_bels Hb.out HB3.out
          have hVo := blk_bels Hb.out HW3.out
          have HBo := Lib.hid hBo
          have Hwo := Lib.hid hwo
          have kb0 := (cell_of_blk hBo 0).trans (show _ = some (.slice a0 n0 c0) from rfl)
          have kb1 := (cell_of_blk hBo 1).trans (show _ = some (.slice a1 n1 c1) from rfl)
          have kb2 := (cell_of_blk hBo 2).trans (show _ = some (.int .i64 a) from rfl)
          have g0 := (cell_of_blk hVo 0).trans (show _ = some (.slice xa0 xn0 xc0) from rfl)
          have g1 := (cell_of_blk hVo 1).trans (show _ = some (.slice xa1 xn1 xc1) from rfl)
          have g2 := (cell_of_blk hVo 2).trans (show _ = some (.slice xa2 xn2 xc2) from rfl)
          have g3 := (cell_of_blk hVo 3).trans (show _ = some (.slice xa3 xn3 xc3) from rfl)
          have HK := Lib.hid (keep_any a0 a1 n0 c0 n1 c1 l zs (groupsL l) (.slice xa0 xn0 xc0) (.slice xa1 xn1 xc1) (.slice xa2 xn2 xc2) (.slice xa3 xn3 xc3) a dp (fun _ => True) wo (H0.out.below hwo) (H1.out.below hwo) (isGr_groups l) (by rw [← Hn0.out]; omega) (fun _ _ _ _ => trivial) (fun u A _ hA => by
            have hde := deeper_any V a u A (HV3.out.below (Hb.out.trans (hA.mono Hb.out.size)))
            rw [Hc.out, show deepB (tabs V.l 4) a u = dp u from by rw [Hdp.out]] at hde
            exact hde))
          clear hdL hwo hBo hVo Hown hk hkn hon
          go_wp2_with fail
          refine HK.out.mono ?_
          rintro e w6 ⟨v6, rfl, hown6, hb6⟩
          obtain ⟨a6, c6, rfl⟩ := own_slice hown6
          obtain ⟨LK, hK⟩ : ∃ K, K = keepTo (groupsL l) zs dp (groupsL l).length := ⟨_, rfl⟩
          rw [← hK] at hown6 ⊢
          have HKp : Hid (keptM (finK (fun u => (deepL dp l).any fun d => decide (d = u)) ((List.range l.length).map fun j => (l.getD j En.nil, k0 l zs j))) = LK) := Lib.hid (by rw [hK]; exact keeps_plain l zs dp HR.out)
          have Ho6 := Lib.hid hown6
          have hKl : LK.length ≤ n0 := by
            rw [hK, Hn0.out]
            have := keepTo_le (gs := groupsL l) zs dp (groupsL l).length (Nat.le_refl _)
            rw [posG_end (isGr_groups l)] at this
            exact this
          have Hb6 := Lib.hid (Hwo.out.trans (hb6.mono Hwo.out.size))
          have HB6 := Lib.hid (blk_bels hb6 HBo.out)
          have HdL6 := Lib.hid (own_below HdL.out hb6)
          have Hrf := Lib.hid (fun (A : World) (hA : Below w6.heap.size w6 A) => refe_any (.slice a0 n0 c0) l A (H0.out.below (Hb6.out.trans (hA.mono Hb6.out.size))) (by rw [← Hn0.out]; omega))
          have Hrk := Lib.hid (fun (A : World) (hA : Below w6.heap.size w6 A) (vr : Value) (hvr : IsEs A vr l) => rkeep_any vr (.slice a1 n1 c1) (.slice oa on oc) l zs (deepL dp l) A hvr (H1.out.below (Hb6.out.trans (hA.mono Hb6.out.size))) (isSl_own sxC_len (own_below HdL6.out hA)) (by rw [← Hn0.out]; omega) (right_ord HR.out) (fun x hx => Nat.le_trans (right_s HR.out hx).2 (by unfold maxLen; omega)))
          clear hown6 hb6 hK kb0 kb1 kb2 g0 g1 g2 g3 HK HBo Hwo HdL
          have kb0 := (cell_of_blk HB6.out 0).trans (show _ = some (.slice a0 n0 c0) from rfl)
          have kb1 := (cell_of_blk HB6.out 1).trans (show _ = some (.slice a1 n1 c1) from rfl)
          go_upto_region 12 with fail
          refine wp_region_held_drew (S := fun V' => Hid (Below w6.heap.size w6 V')) (by kernel_rfl) (Lib.hid ((Below.refl _ _).drew)) (fun hS0 => ?_)
          refine wpAnyH_take (i := 0) (oi := { dst := some 56, op := Op.fieldAddr 54 (Operand.tmp 1) 0, type := 0, pos := "law.go:137", after := #[], guard := none }) (v := ?_) rfl (by kernel_rfl) (by kernel_rfl) (by kernel_rfl) (fun _ _ _ h => h) (Or.inl ⟨by rfl, ?hy1⟩) hS0 ?_
          case hy1 => (intro V hSw; (try dsimp only at hSw); clear hSw; go_simp; try with_reducible rfl)
          try simp only [Act.put, List.setIfInBounds_toArray, List.set_cons_zero, List.set_cons_succ]
          refine wpAnyH_take (i := 1) (oi := { dst := some 57, op := Op.load 22 (Operand.tmp 56), type := 22, pos := "law.go:137", after := #[{ on := 0, ground := Ground.data }], guard := none }) (v := ?_) rfl (by kernel_rfl) (by kernel_rfl) (by kernel_rfl) (fun _ _ _ h => h) (Or.inl ⟨by rfl, ?hy2⟩) hS0 ?_
          case hy2 => (intro V hSw; (try dsimp only at hSw); have q0 := grow_cell hSw.out (block_lt_of_cell kb0) kb0; have q1 := grow_cell hSw.out (block_lt_of_cell kb1) kb1; clear hSw; go_simp; try with_reducible rfl)
          try simp only [Act.put, List.setIfInBounds_toArray, List.set_cons_zero, List.set_cons_succ]
          refine wpAnyH_take (i := 3) (oi := { dst := some 59, op := Op.fieldAddr 54 (Operand.tmp 1) 1, type := 0, pos := "law.go:137", after := #[], guard := none }) (v := ?_) rfl (by kernel_rfl) (by kernel_rfl) (by kernel_rfl) (fun _ _ _ h => h) (Or.inl ⟨by rfl, ?hy3⟩) hS0 ?_
          case hy3 => (intro V hSw; (try dsimp only at hSw); clear hSw; go_simp; try with_reducible rfl)
          try simp only [Act.put, List.setIfInBounds_toArray, List.set_cons_zero, List.set_cons_succ]
          refine wpAnyH_take (i := 4) (oi := { dst := some 60, op := Op.load 51 (Operand.tmp 59), type := 51, pos := "law.go:137", after := #[{ on := 3, ground := Ground.data }], guard := none }) (v := ?_) rfl (by kernel_rfl) (by kernel_rfl) (by kernel_rfl) (fun _ _ _ h => h) (Or.inl ⟨by rfl, ?hy4⟩) hS0 ?_
          case hy4 => (intro V hSw; (try dsimp only at hSw); have q0 := grow_cell hSw.out (block_lt_of_cell kb0) kb0; have q1 := grow_cell hSw.out (block_lt_of_cell kb1) kb1; clear hSw; go_simp; try with_reducible rfl)
          try simp only [Act.put, List.setIfInBounds_toArray, List.set_cons_zero, List.set_cons_succ]
          refine wpAnyH_take (i := 5) (oi := { dst := some 61, op := Op.move (Operand.tmp 4), type := 52, pos := "law.go:137", after := #[], guard := none }) (v := ?_) rfl (by kernel_rfl) (by kernel_rfl) (by kernel_rfl) (fun _ _ _ h => h) (Or.inl ⟨by rfl, ?hy5⟩) hS0 ?_
          case hy5 => (intro V hSw; (try dsimp only at hSw); clear hSw; go_simp; try with_reducible rfl)
          try simp only [Act.put, List.setIfInBounds_toArray, List.set_cons_zero, List.set_cons_succ]
          refine wpAnyH_ready (rs := [2]) (by kernel_rfl) (by simp) (AllReadyH.cons rfl (fun K hK => ?_) AllReadyH.nil)
          go_simp
          refine (Hrf.out _ hS0.out).mono ?_
          rintro e wv6 ⟨vr6, rfl, hown6, hv6⟩
          obtain ⟨ra6, rc6, rfl⟩ := own_slice hown6
          have hS6 := Lib.hid (hS0.out.trans (hv6.mono hS0.out.size))
          have HvR := Lib.hid (isSl_own en_len hown6)
          clear hv6 hown6
          refine hK.out _ _ hS6 (fun _ => ?_)
          clear hK K
          try simp only [Act.put, List.setIfInBounds_toArray, List.set_cons_zero, List.set_cons_succ]
          refine wpAnyH_ready (rs := [6]) (by kernel_rfl) (by simp) (AllReadyH.cons rfl (fun K hK => ?_) AllReadyH.nil)
          go_simp
          refine (Hrk.out _ hS6.out _ HvR.out).mono ?_
          rintro e wv7 hq7
          obtain ⟨vk7, rfl, hown7, hv7⟩ := hq7.out
          rw [HKp.out] at hown7
          obtain ⟨ka7, kc7, rfl⟩ := own_slice hown7
          have hS7 := Lib.hid (hS6.out.trans (hv7.mono hS6.out.size))
          have HoK := Lib.hid hown7
          clear hv7 hq7 hown7
          refine hK.out _ _ hS7 (fun _ => ?_)
          clear hK K
          try simp only [Act.put, List.setIfInBounds_toArray, List.set_cons_zero, List.set_cons_succ]
          refine wpAnyH_ready (rs := [7]) (by kernel_rfl) (by simp) (AllReadyH.cons rfl (fun K hK => ?_) AllReadyH.nil)
          go_simp
          refine hK.out _ _ hS7 (fun _ => ?_)
          clear hK K
          try simp only [Act.put, List.setIfInBounds_toArray, List.set_cons_zero, List.set_cons_succ]
          refine wpAnyH_done (by kernel_rfl) ?_ _
          have HbE := Lib.hid (Hb6.out.trans (hS7.out.mono Hb6.out.size))
          have HR9 := Lib.hid (refe_any _ _ _ (isSl_own en_len (own_below Ho6.out hS7.out)) (by omega))
          clear hS0 kb0 kb1 Hrf Hrk HKp HdL6 HB6 Hb6
          go_wp2_with fail
          refine HR9.out.mono ?_
          rintro e w9 ⟨v9, rfl, hown9, hb9⟩
          obtain ⟨a9, c9, rfl⟩ := own_slice hown9
          have Hx9 := Lib.hid (isSl_own en_len hown9).at.2.2.2
          have HxK := Lib.hid (isSl_own en_len (own_below HoK.out hb9)).at.2.2.2
          have Hb9 := Lib.hid (HbE.out.trans (hb9.mono HbE.out.size))
          clear hown9 hb9 HR9 HoK HbE
          go_wp2_with fail
          go_loopw [71] (fun iv wr => ∃ k : Nat, k ≤ LK.length ∧ iv = .int .i64 k ∧ Below w9.heap.size w9 wr) (fun iv _ => LK.length - (intOf iv).toNat)
          case atStart => exact ⟨0, Nat.zero_le _, rfl, Below.refl _ _⟩
          case round =>
            obtain ⟨wo, rfl⟩ : ∃ wo : World, wo = wr := ⟨_, rfl⟩
            obtain ⟨k, hk, rfl, hb⟩ := hrel
            have Hb := Lib.hid hb
            clear hb
            by_cases hkn : k < LK.length
            · obtain ⟨b9, off9, rfl, hcell⟩ := Hx9.out (by omega)
              obtain ⟨bK, offK, rfl, hcell2⟩ := HxK.out (by omega)
              obtain ⟨x, hxk⟩ : ∃ x, LK[k]? = some x := ⟨_, List.getElem?_eq_getElem hkn⟩
              obtain ⟨d0, d1, d2, d3⟩ := IsEs.row (w := wo) (fun i x hi j y hj => (Hb.out.cell (block_lt_of_cell (hcell i x hi j y hj))).trans (hcell i x hi j y hj)) hxk
              obtain ⟨p0, p1, p2, p3⟩ := IsEs.row (w := wo) (fun i x hi j y hj => (Hb.out.cell (block_lt_of_cell (hcell2 i x hi j y hj))).trans (hcell2 i x hi j y hj)) hxk
              clear hcell hcell2 hxk
              obtain ⟨⟨u, s, kd⟩, val⟩ := x
              dsimp only at d0 d1 d2 d3 p0 p1 p2 p3
              have hne := fun W => neq_re u s kd val W
              have hA : Below wo.heap.size wo (wo.alloc (.cells #[.string u, .int .i64 s, .int .i64 kd, .string val] 67)) := (Below.refl _ _).alloc (Nat.le_refl _) _
              have HS := Lib.hid (blk_of_alloc wo (.cells #[.string u, .int .i64 s, .int .i64 kd, .string val] 67))
              have HbW := Lib.hid (Hb.out.trans (hA.mono Hb.out.size))
              have q0 := grow_cell hA (block_lt_of_cell p0) p0
              have q1 := grow_cell hA (block_lt_of_cell p1) p1
              have q2 := grow_cell hA (block_lt_of_cell p2) p2
              have q3 := grow_cell hA (block_lt_of_cell p3) p3
              obtain ⟨sb, hsb⟩ : ∃ o, o = wo.heap.size := ⟨_, rfl⟩
              have Hsb := Lib.hid hsb
              rw [← hsb] at HS
              clear hA hsb p0 p1 p2 p3
              have hkn2 : (k : Int) < (LK.length : Int) := by omega
              go_upto_region 18 with fail
              rw [← Hsb.out]
              generalize wo.alloc (.cells #[.string u, .int .i64 s, .int .i64 kd, .string val] 67) = W at *
              clear Hsb d0 d1 d2 d3
              have e0 := (cell_of_blk HS.out 0).trans (show _ = some (.string u) from rfl)
              have e1 := (cell_of_blk HS.out 1).trans (show _ = some (.int .i64 s) from rfl)
              have e2 := (cell_of_blk HS.out 2).trans (show _ = some (.int .i64 kd) from rfl)
              have e3 := (cell_of_blk HS.out 3).trans (show _ = some (.string val) from rfl)
              go_quiet (fail)
              go_wp2_with fail
              go_roundw
              case rel => exact ⟨k + 1, by omega, by go_num, below_drewN HbW.out _⟩
              case measure => simp [intOf]; omega
            · obtain rfl : k = LK.length := by omega
              go_wp2_with fail
              refine (awake_any _).mono ?_
              rintro e w10 ⟨rfl, hb10⟩
              go_wp2_with fail
              go_ret
              exact ⟨rfl, (Hb9.out.trans (Hb.out.mono Hb9.out.size)).trans (hb10.mono (Hb9.out.trans (Hb.out.mono Hb9.out.size)).size)⟩
end Go.Proofs.Ytkjfjcigmmooiaa.Tithe
