/- The law CompactSees: walked. -/
import Derived.Test.YtkjfjcigmmooiaaEntSeesP
namespace Go.Proofs.Ytkjfjcigmmooiaa.Tithe
open Go.RowKit Go.Sort Go.Shelf
set_option linter.unusedVariables false
set_option linter.unusedSimpArgs false
set_option maxRecDepth 100000
theorem right_kind {l : List En} {most : Int} (h : rightE l most = true) {x : En} (hx : x ∈ l) : x.key.k ≤ 3 := by
  obtain ⟨k, hk⟩ := List.mem_iff_getElem?.1 hx
  have := (right_at h hk).2.1
  unfold okK at this
  simp only [Bool.and_eq_true, decide_eq_true_eq] at this
  omega
theorem ord_sort {l : List En} (h : OrdE l) : sortE l := by
  intro i j x y hij hx hy
  have a1 := List.getElem?_eq_some_iff.1 hx
  have a2 := List.getElem?_eq_some_iff.1 hy
  have := List.pairwise_iff_getElem.1 h i j a1.1 a2.1 hij
  rw [a1.2, a2.2] at this
  omega
attribute [local go_sem] Oper.semAt_some
set_option maxHeartbeats 6400000 in
theorem compactSees_walk (v0 v1 v4 : Value) (l : List En) (zs : List Int) (a b : Int) (ss : List ByteArray) (w : World) (h0 : IsEs w v0 l) (h1 : IsZs w v1 zs) (h4 : IsSx w v4 ss) :
    Calls Try.prog 7 #[.agg #[v0, v1, .int .i64 a, .int .i64 b, v4]] w fun e w' => e = .returned (.bool true) ∧ Below w.heap.size w w' := by
  obtain ⟨a0, c0, rfl, -, -, -⟩ := id h0
  obtain ⟨a1, c1, rfl, -, -, -⟩ := id h1
  obtain ⟨-, hc0, hm0, hx0⟩ := h0.at
  obtain ⟨-, hc1, hm1, -⟩ := h1.at
  obtain ⟨n0, hn0⟩ : ∃ n, n = l.length := ⟨_, rfl⟩
  obtain ⟨n1, hn1⟩ : ∃ n, n = zs.length := ⟨_, rfl⟩
  rw [← hn0] at hc0 h0 hx0 ⊢
  rw [← hn1] at hc1 h1 ⊢
  have H0 := Lib.hid h0
  have H1 := Lib.hid h1
  have H4 := Lib.hid h4
  have Hx0 := Lib.hid hx0
  have Hn0 := Lib.hid hn0
  have Hn1 := Lib.hid hn1
  have HB1 := Lib.hid (blk_of_alloc w (.cells #[.slice a0 n0 c0, .slice a1 n1 c1, .int .i64 a, .int .i64 b, v4] 54))
  have Hb1 := Lib.hid ((Below.refl w.heap.size w).alloc (Nat.le_refl _) (.cells #[.slice a0 n0 c0, .slice a1 n1 c1, .int .i64 a, .int .i64 b, v4] 54))
  clear h0 h1 h4 hx0 hn0 hn1
  obtain ⟨bx, hbx⟩ : ∃ o, o = w.heap.size := ⟨_, rfl⟩
  have Hbx := Lib.hid hbx
  rw [← hbx] at HB1
  clear hbx
  go_enter Try.func7, Try.ntmps7
  go_upto_region 1 with fail
  rw [← Hbx.out]
  generalize w.alloc (.cells #[.slice a0 n0 c0, .slice a1 n1 c1, .int .i64 a, .int .i64 b, v4] 54) = W1 at *
  clear Hbx
  have c10 := (cell_of_blk HB1.out 0).trans (show _ = some (.slice a0 n0 c0) from rfl)
  have Hr := Lib.hid (right_any (.slice a0 n0 c0) l 60 W1 (H0.out.below Hb1.out))
  go_wp2_with fail
  refine Hr.out.mono ?_
  rintro e w2 ⟨rfl, hb2⟩
  have HB2 := Lib.hid (blk_bels hb2 HB1.out)
  have Hb2 := Lib.hid (Hb1.out.trans (hb2.mono Hb1.out.size))
  clear hb2 Hr c10 HB1 Hb1
  cases hr : rightE l 60 with
  | false =>
    go_wp2_with fail
    refine (awake_any _).mono ?_
    rintro e w3 ⟨rfl, hb3⟩
    go_wp2_with fail
    go_ret
    exact ⟨rfl, Hb2.out.trans (hb3.mono Hb2.out.size)⟩
  | true =>
    have c21 := (cell_of_blk HB2.out 1).trans (show _ = some (.slice a1 n1 c1) from rfl)
    by_cases hsn : 10 < n1
    · have d10 : decide ((n1 : Int) > 10) = true := decide_eq_true (by omega)
      have d10' : decide ((10 : Int) < (n1 : Int)) = true := decide_eq_true (by omega)
      go_wp2_with fail
      refine (awake_any _).mono ?_
      rintro e w3 ⟨rfl, hb3⟩
      go_wp2_with fail
      go_ret
      exact ⟨rfl, Hb2.out.trans (hb3.mono Hb2.out.size)⟩
    · have d10 : decide ((n1 : Int) > 10) = false := decide_eq_false (by omega)
      have d10' : decide ((10 : Int) < (n1 : Int)) = false := decide_eq_false (by omega)
      have HR := Lib.hid hr
      have hl60 := right_len hr
      rw [← Hn0.out] at hl60
      have hn60 : n0 ≤ 60 := by omega
      have c23 := (cell_of_blk HB2.out 3).trans (show _ = some (.int .i64 b) from rfl)
      have c24 := (cell_of_blk HB2.out 4).trans (show _ = some v4 from rfl)
      have Hv := Lib.hid (version_any b v4 ss w2 (H4.out.below Hb2.out))
      have hn10 : n1 ≤ 10 := by omega
      clear hr hl60 hsn
      go_wp2_with fail
      refine Hv.out.mono ?_
      rintro e w3 hq
      obtain ⟨V, rfl, hV, hb3⟩ := hq.out
      obtain ⟨xa0, xn0, xc0, xa1, xn1, xc1, xa2, xn2, xc2, xa3, xn3, xc3, hc⟩ := vn_agg hV
      rw [hc]
      have Hc := Lib.hid hc
      have HB3 := Lib.hid (blk_old (blk_bels hb3 HB2.out) (.cells #[.slice xa0 xn0 xc0, .slice xa1 xn1 xc1, .slice xa2 xn2 xc2, .slice xa3 xn3 xc3] 58))
      have hal : Below w3.heap.size w3 (w3.alloc (.cells #[.slice xa0 xn0 xc0, .slice xa1 xn1 xc1, .slice xa2 xn2 xc2, .slice xa3 xn3 xc3] 58)) := (Below.refl _ _).alloc (Nat.le_refl _) _
      have hb23 := Hb2.out.trans (hb3.mono Hb2.out.size)
      have Hb3 := Lib.hid (hb23.trans (hal.mono hb23.size))
      have HV3 := Lib.hid (hV.below hal)
      have HW3 := Lib.hid (blk_of_alloc w3 (.cells #[.slice xa0 xn0 xc0, .slice xa1 xn1 xc1, .slice xa2 xn2 xc2, .slice xa3 xn3 xc3] 58))
      obtain ⟨vb, hvb⟩ : ∃ o, o = w3.heap.size := ⟨_, rfl⟩
      have Hvb := Lib.hid hvb
      rw [← hvb] at HW3
      clear hq hc hal hb23 hb3 hV hvb d10 d10' c21 c23 c24 HB2 Hb2 Hv
      go_upto_region 4 with fail
      rw [← Hvb.out]
      generalize w3.alloc (.cells #[.slice xa0 xn0 xc0, .slice xa1 xn1 xc1, .slice xa2 xn2 xc2, .slice xa3 xn3 xc3] 58) = wB at *
      clear Hvb
      obtain ⟨dp, hdp⟩ : ∃ dp : ByteArray → Bool, dp = fun u => deepB (tabs V.l 4) a u := ⟨_, rfl⟩
      have HD : Hid (∀ (A : World), Below wB.heap.size wB A → ∀ u : ByteArray, Calls Try.prog 19 #[.agg #[.slice xa0 xn0 xc0, .slice xa1 xn1 xc1, .slice xa2 xn2 xc2, .slice xa3 xn3 xc3], .int .i64 a, .string u] A fun e w' => e = .returned (.bool (dp u)) ∧ Below A.heap.size A w') := Lib.hid (fun A hA u => by
        have hde := deeper_any V a u A (HV3.out.below hA)
        rw [Hc.out, show deepB (tabs V.l 4) a u = dp u from by rw [hdp]] at hde
        exact hde)
      have HKa : Hid (∀ (A : World), Below wB.heap.size wB A → ∀ (ax : Option Addr) (nx cx : Nat) (L : List En), IsEs A (.slice ax nx cx) L → L.length ≤ 100000 → Calls Try.prog 20 #[.slice ax nx cx, .slice a1 n1 c1, .agg #[.slice xa0 xn0 xc0, .slice xa1 xn1 xc1, .slice xa2 xn2 xc2, .slice xa3 xn3 xc3], .int .i64 a] A fun e w' => ∃ v', e = .returned v' ∧ w'.ownsRow A.heap.size 30 4 v' (keepTo (groupsL L) zs dp (groupsL L).length).length (flat En.cells (keepTo (groupsL L) zs dp (groupsL L).length)) ∧ Below A.heap.size A w') := Lib.hid (fun A hA ax nx cx L hL hLn =>
        keep_any ax a1 nx cx n1 c1 L zs (groupsL L) (.slice xa0 xn0 xc0) (.slice xa1 xn1 xc1) (.slice xa2 xn2 xc2) (.slice xa3 xn3 xc3) a dp (fun _ => True) A hL (H1.out.below (Hb3.out.trans (hA.mono Hb3.out.size))) (isGr_groups L) hLn (fun _ _ _ _ => trivial) (fun u A2 _ hA2 => HD.out A2 (hA.trans (hA2.mono hA.size)) u))
      clear hdp Hc HV3
      have kb0 := (cell_of_blk (HB3.out) 0).trans (show _ = some (.slice a0 n0 c0) from rfl)
      have kb1 := (cell_of_blk (HB3.out) 1).trans (show _ = some (.slice a1 n1 c1) from rfl)
      have kb2 := (cell_of_blk (HB3.out) 2).trans (show _ = some (.int .i64 a) from rfl)
      have g0 := (cell_of_blk (HW3.out) 0).trans (show _ = some (.slice xa0 xn0 xc0) from rfl)
      have g1 := (cell_of_blk (HW3.out) 1).trans (show _ = some (.slice xa1 xn1 xc1) from rfl)
      have g2 := (cell_of_blk (HW3.out) 2).trans (show _ = some (.slice xa2 xn2 xc2) from rfl)
      have g3 := (cell_of_blk (HW3.out) 3).trans (show _ = some (.slice xa3 xn3 xc3) from rfl)
      have HKf := HKa.out wB (Below.refl _ _) a0 n0 c0 l (H0.out.below Hb3.out) (by rw [← Hn0.out]; omega)
      rw [keepTo_eq l zs dp HR.out] at HKf
      have HKf2 := Lib.hid HKf
      clear HKf
      go_wp2_with fail
      refine HKf2.out.mono ?_
      rintro e w6 ⟨v6, rfl, hown6, hb6⟩
      have hsubf : ∀ x ∈ keepL l zs dp, x ∈ l := fun x hx => keepL_sub hx
      have hlenf := keepL_le l zs dp
      have hordf := keepL_ord (right_ord HR.out) zs dp
      have hagain := keep_again (right_ord HR.out) zs dp
      have hseen := fun (u : ByteArray) (s : Int) (hs : s = 1099511627776 ∨ s ∈ zs) => sees_kept (l := l) (zs := zs) dp (u := u) (s := s) hs
      have hgone := gone_len (right_ord HR.out) zs dp
      obtain ⟨LF, hLF⟩ : ∃ K, K = keepL l zs dp := ⟨_, rfl⟩
      rw [← hLF] at hown6 hsubf hlenf hordf hseen hgone
      have hag2 : keepL LF zs dp = LF := by rw [hLF]; exact hagain
      obtain ⟨a6, c6, rfl⟩ := own_slice hown6
      have Ho6 := Lib.hid hown6
      have Hsub := Lib.hid hsubf
      have Hord := Lib.hid hordf
      have Hag := Lib.hid hag2
      have Hseen := Lib.hid hseen
      have Hgone := Lib.hid hgone
      rw [← Hn0.out] at hlenf
      have Hb6 := Lib.hid hb6
      have HB6 := Lib.hid (blk_bels hb6 HB3.out)
      clear hown6 hb6 kb0 kb1 kb2 g0 g1 g2 g3 HKf2 hsubf hordf hLF hagain hag2 hseen hgone
      have kb1 := (cell_of_blk HB6.out 1).trans (show _ = some (.slice a1 n1 c1) from rfl)
      -- the numbers
      have hal : Below w6.heap.size w6 (w6.alloc (.cells #[.int .i64 1099511627776] 3)) := (Below.refl _ _).alloc (Nat.le_refl _) _
      have kb1' := grow_cell hal (block_lt_of_cell kb1) kb1
      have hown1 : OwnZs (w6.alloc (.cells #[.int .i64 1099511627776] 3)) w6.heap.size (.slice (some ⟨w6.heap.size, 0, none⟩) 1 1) [1099511627776] := own_of (blk_of_alloc w6 _) (Nat.le_refl _) (Nat.le_refl 1) (by unfold maxLen; omega) rfl rfl
      have hz6 : IsZs (w6.alloc (.cells #[.int .i64 1099511627776] 3)) (.slice a1 n1 c1) zs := H1.out.below (Hb3.out.trans ((Hb6.out.trans (hal.mono Hb6.out.size)).mono Hb3.out.size))
      obtain ⟨vS, wE, hrun, hownS, hgS⟩ := app_zs _ w6.heap.size _ (.slice a1 n1 c1) [1099511627776] zs hown1 hz6 (by rw [← Hn1.out]; simp; omega) hal.size
      have hb6E : Below w6.heap.size w6 wE := ((Below.refl _ _).alloc (Nat.le_refl _) _).grown hgS hal.size (fun g e => (hown1.lt g e).1)
      have hownS2 : wE.ownsRow w6.heap.size 3 1 vS (1 + n1) (flat intC (1099511627776 :: zs)) := by
        unfold OwnZs at hownS
        rw [List.length_append, ← Hn1.out] at hownS
        exact hownS
      obtain ⟨aS, cS, rfl⟩ := own_slice hownS2
      have hSl : (1099511627776 :: zs : List Int).length = 1 + n1 := by rw [List.length_cons, ← Hn1.out]; omega
      have HxS := Lib.hid (isSl_own intC_len (l := (1099511627776 :: zs : List Int)) (by rw [hSl]; exact hownS2)).at.2.2.2
      have HSl := Lib.hid hSl
      have HbBE := Lib.hid (Hb6.out.trans (hb6E.mono Hb6.out.size))
      have HbwE := Lib.hid (Hb3.out.trans (HbBE.out.mono Hb3.out.size))
      have HBE := Lib.hid (blk_bels HbBE.out HB3.out)
      have HWE := Lib.hid (blk_bels HbBE.out HW3.out)
      have HoE := Lib.hid (own_below Ho6.out hb6E)
      clear hal hown1 hz6 hownS hgS hb6E hownS2 hSl
      go_wp2_with (at_builtin; first | (refine wpList_val rfl _ _ (run_append_op (.tmp 38) (.tmp 40) 51 51 rfl rfl rfl hrun) ?_) | (refine wpList_val rfl _ _ (run_append_op (.tmp 38) (.tmp 40) 51 51 rfl (by simp) (by simp) hrun) ?_))
      clear hrun kb1 kb1' HB3 HW3 HB6 Hb6 Ho6
      go_loopw [43] (fun iv wr => ∃ j : Nat, j ≤ 1 + n1 ∧ iv = .int .i64 j ∧ Below wE.heap.size wE wr) (fun iv _ => 1 + n1 - (intOf iv).toNat)
      case atStart => exact ⟨0, Nat.zero_le _, rfl, Below.refl _ _⟩
      case round =>
        obtain ⟨wq, rfl⟩ : ∃ wq : World, wq = wr := ⟨_, rfl⟩
        obtain ⟨j, hj, rfl, hbq⟩ := hrel
        have Hbq := Lib.hid hbq
        clear hbq
        by_cases hjn : j < 1 + n1
        · obtain ⟨bS, offS, rfl, hcS⟩ := HxS.out (by omega)
          obtain ⟨s, hsj⟩ : ∃ s, (1099511627776 :: zs : List Int)[j]? = some s := ⟨_, List.getElem?_eq_getElem (by rw [HSl.out]; exact hjn)⟩
          have cs0 : wq.cell? ⟨bS, offS + j, none⟩ = some (.int .i64 s) := by
            have := hcS j s hsj 0 _ rfl
            rw [Nat.mul_one, Nat.add_zero] at this
            exact (Hbq.out.cell (block_lt_of_cell this)).trans this
          have Hs := Lib.hid (List.mem_cons.1 (List.mem_of_getElem? hsj))
          have hjn2 : (j : Int) < ((1 + n1 : Nat) : Int) := by omega
          have hjn3 : (j : Int) < 1 + (n1 : Int) := by omega
          have HBq := Lib.hid (blk_bels Hbq.out HBE.out)
          have kb0 := (cell_of_blk (HBq.out) 0).trans (show _ = some (.slice a0 n0 c0) from rfl)
          clear hcS hsj
          go_wp2_with fail
          clear cs0 kb0 hjn2 hjn3 HBq
          go_loopw [50] (fun iv wr => ∃ k : Nat, k ≤ n0 ∧ iv = .int .i64 k ∧ Below wE.heap.size wE wr) (fun iv _ => n0 - (intOf iv).toNat)
          case atStart => exact ⟨0, Nat.zero_le _, rfl, Hbq.out⟩
          case round =>
            clear Hbq
            obtain ⟨wi, rfl⟩ : ∃ wi : World, wi = wr := ⟨_, rfl⟩
            obtain ⟨k, hk, rfl, hbi⟩ := hrel
            have Hbi := Lib.hid hbi
            clear hbi
            by_cases hkn : k < n0
            · obtain ⟨be, off, rfl, hcell⟩ := Hx0.out (by omega)
              obtain ⟨x, hxk⟩ : ∃ x, l[k]? = some x := ⟨_, List.getElem?_eq_getElem (by rw [← Hn0.out]; exact hkn)⟩
              have hwi : Below w.heap.size w wi := HbwE.out.trans (Hbi.out.mono HbwE.out.size)
              obtain ⟨d0, d1, d2, d3⟩ := IsEs.row (w := wi) (fun i x hi j y hj => (hwi.cell (block_lt_of_cell (hcell i x hi j y hj))).trans (hcell i x hi j y hj)) hxk
              clear hcell hwi
              obtain ⟨⟨u, sq, kd⟩, val⟩ := x
              dsimp only at d0 d1 d2 d3
              have hA : Below wi.heap.size wi (wi.alloc (.cells #[.string u, .int .i64 sq, .int .i64 kd, .string val] 30)) := (Below.refl _ _).alloc (Nat.le_refl _) _
              have HS := Lib.hid (blk_of_alloc wi (.cells #[.string u, .int .i64 sq, .int .i64 kd, .string val] 30))
              have HbW := Lib.hid (Hbi.out.trans (hA.mono Hbi.out.size))
              obtain ⟨sb, hsb⟩ : ∃ o, o = wi.heap.size := ⟨_, rfl⟩
              have Hsb := Lib.hid hsb
              rw [← hsb] at HS
              clear hA hsb
              have hpa := Lib.hid (fun (A : World) (hA : Below wE.heap.size wE A) => pick_any (.slice (some ⟨be, off, none⟩) n0 c0) l u s A (H0.out.below (HbwE.out.trans (hA.mono HbwE.out.size))) (by rw [← Hn0.out]; omega) (ord_sort (right_ord HR.out)) (fun x hx => right_kind HR.out hx))
              have hpb := Lib.hid (fun (A : World) (hA : Below wE.heap.size wE A) => pick_any (.slice a6 LF.length c6) LF u s A (isSl_own en_len (own_below HoE.out hA)) (by omega) (ord_sort Hord.out) (fun x hx => right_kind HR.out (Hsub.out x hx)))
              have hse := Hseen.out u s Hs.out
              clear hxk
              unfold enV at hpa hpb
              cases hpk : pickE l u s with
              | none =>
                rw [hpk] at hse hpa
                have hse2 : pickE LF u s = none := hse
                rw [hse2] at hpb
                simp only [Option.getD_none, Option.isSome_none, En.nil, Ky.nil] at hpa hpb
                clear hse hse2 hpk
                have HPa := Lib.hid (hpa.out)
                have HPb := Lib.hid (hpb.out)
                clear hpa hpb
                go_upto_region 11 with fail
                rw [← Hsb.out]
                generalize wi.alloc (.cells #[.string u, .int .i64 sq, .int .i64 kd, .string val] 30) = W at *
                clear Hsb d0 d1 d2 d3
                have HBw := Lib.hid (blk_bels HbW.out HBE.out)
                have kb0 := (cell_of_blk (HBw.out) 0).trans (show _ = some (.slice (some ⟨be, off, none⟩) n0 c0) from rfl)
                have e0 := (cell_of_blk HS.out 0).trans (show _ = some (.string u) from rfl)
                have HPa2 := Lib.hid (HPa.out W HbW.out)
                go_wp2_with fail
                refine HPa2.out.mono ?_
                rintro e wa ⟨rfl, hba⟩
                have HbA := Lib.hid (HbW.out.trans (hba.mono HbW.out.size))
                have HSa := Lib.hid (blk_bels hba HS.out)
                have hal : Below wa.heap.size wa (wa.alloc (.cells #[.string ⟨#[]⟩, .int .i64 0, .int .i64 0, .string ⟨#[]⟩] 30)) := (Below.refl _ _).alloc (Nat.le_refl _) _
                have HS1 := Lib.hid (blk_bels hal HSa.out)
                have HA1 := Lib.hid (blk_of_alloc wa (.cells #[.string ⟨#[]⟩, .int .i64 0, .int .i64 0, .string ⟨#[]⟩] 30))
                have HbA1 := Lib.hid (HbA.out.trans (hal.mono HbA.out.size))
                obtain ⟨pa, hpa2⟩ : ∃ o, o = wa.heap.size := ⟨_, rfl⟩
                have Hpa2 := Lib.hid hpa2
                rw [← hpa2] at HA1
                clear hba hal hpa2 kb0 e0 HPa HPa2 HbW HS HSa HbA HBw
                go_upto_region 12 with fail
                rw [← Hpa2.out]
                generalize wa.alloc (.cells #[.string ⟨#[]⟩, .int .i64 0, .int .i64 0, .string ⟨#[]⟩] 30) = W2 at *
                clear Hpa2
                have e0 := (cell_of_blk HS1.out 0).trans (show _ = some (.string u) from rfl)
                have HPb2 := Lib.hid (HPb.out W2 HbA1.out)
                go_wp2_with fail
                refine HPb2.out.mono ?_
                rintro e wc ⟨rfl, hbc⟩
                have HbC := Lib.hid (HbA1.out.trans (hbc.mono HbA1.out.size))
                have hal : Below wc.heap.size wc (wc.alloc (.cells #[.string ⟨#[]⟩, .int .i64 0, .int .i64 0, .string ⟨#[]⟩] 30)) := (Below.refl _ _).alloc (Nat.le_refl _) _
                have HS2 := Lib.hid (blk_bels hal (blk_bels hbc HS1.out))
                have HA2 := Lib.hid (blk_bels hal (blk_bels hbc HA1.out))
                have HB2 := Lib.hid (blk_of_alloc wc (.cells #[.string ⟨#[]⟩, .int .i64 0, .int .i64 0, .string ⟨#[]⟩] 30))
                have HbC1 := Lib.hid (HbC.out.trans (hal.mono HbC.out.size))
                obtain ⟨pc, hpc2⟩ : ∃ o, o = wc.heap.size := ⟨_, rfl⟩
                have Hpc2 := Lib.hid hpc2
                rw [← hpc2] at HB2
                clear hbc hal hpc2 e0 HPb HPb2 HbA1 HS1 HA1 HbC
                go_upto_region 13 with fail
                rw [← Hpc2.out]
                generalize wc.alloc (.cells #[.string ⟨#[]⟩, .int .i64 0, .int .i64 0, .string ⟨#[]⟩] 30) = W3 at *
                clear Hpc2
                go_wp2_with fail
                go_roundw
                case rel => exact ⟨k + 1, by omega, by go_num, HbC1.out⟩
                case measure => simp [intOf]; omega
              | some y =>
                rw [hpk] at hse hpa
                rcases hse with hse2 | ⟨hse2, hk2, hdu⟩
                · rw [hse2] at hpb
                  simp only [Option.getD_some, Option.isSome_some] at hpa hpb
                  clear hse2 hpk
                  obtain ⟨⟨xu, xs, xk⟩, xv⟩ := y
                  dsimp only at hpa hpb
                  have HPa := Lib.hid (hpa.out)
                  have HPb := Lib.hid (hpb.out)
                  clear hpa hpb
                  go_upto_region 11 with fail
                  rw [← Hsb.out]
                  generalize wi.alloc (.cells #[.string u, .int .i64 sq, .int .i64 kd, .string val] 30) = W at *
                  clear Hsb d0 d1 d2 d3
                  have HBw := Lib.hid (blk_bels HbW.out HBE.out)
                  have kb0 := (cell_of_blk (HBw.out) 0).trans (show _ = some (.slice (some ⟨be, off, none⟩) n0 c0) from rfl)
                  have e0 := (cell_of_blk HS.out 0).trans (show _ = some (.string u) from rfl)
                  have HPa2 := Lib.hid (HPa.out W HbW.out)
                  go_wp2_with fail
                  refine HPa2.out.mono ?_
                  rintro e wa ⟨rfl, hba⟩
                  have HbA := Lib.hid (HbW.out.trans (hba.mono HbW.out.size))
                  have HSa := Lib.hid (blk_bels hba HS.out)
                  have hal : Below wa.heap.size wa (wa.alloc (.cells #[.string xu, .int .i64 xs, .int .i64 xk, .string xv] 30)) := (Below.refl _ _).alloc (Nat.le_refl _) _
                  have HS1 := Lib.hid (blk_bels hal HSa.out)
                  have HA1 := Lib.hid (blk_of_alloc wa (.cells #[.string xu, .int .i64 xs, .int .i64 xk, .string xv] 30))
                  have HbA1 := Lib.hid (HbA.out.trans (hal.mono HbA.out.size))
                  obtain ⟨pa, hpa2⟩ : ∃ o, o = wa.heap.size := ⟨_, rfl⟩
                  have Hpa2 := Lib.hid hpa2
                  rw [← hpa2] at HA1
                  clear hba hal hpa2 kb0 e0 HPa HPa2 HbW HS HSa HbA HBw
                  go_upto_region 12 with fail
                  rw [← Hpa2.out]
                  generalize wa.alloc (.cells #[.string xu, .int .i64 xs, .int .i64 xk, .string xv] 30) = W2 at *
                  clear Hpa2
                  have e0 := (cell_of_blk HS1.out 0).trans (show _ = some (.string u) from rfl)
                  have HPb2 := Lib.hid (HPb.out W2 HbA1.out)
                  go_wp2_with fail
                  refine HPb2.out.mono ?_
                  rintro e wc ⟨rfl, hbc⟩
                  have HbC := Lib.hid (HbA1.out.trans (hbc.mono HbA1.out.size))
                  have hal : Below wc.heap.size wc (wc.alloc (.cells #[.string xu, .int .i64 xs, .int .i64 xk, .string xv] 30)) := (Below.refl _ _).alloc (Nat.le_refl _) _
                  have HS2 := Lib.hid (blk_bels hal (blk_bels hbc HS1.out))
                  have HA2 := Lib.hid (blk_bels hal (blk_bels hbc HA1.out))
                  have HB2 := Lib.hid (blk_of_alloc wc (.cells #[.string xu, .int .i64 xs, .int .i64 xk, .string xv] 30))
                  have HbC1 := Lib.hid (HbC.out.trans (hal.mono HbC.out.size))
                  obtain ⟨pc, hpc2⟩ : ∃ o, o = wc.heap.size := ⟨_, rfl⟩
                  have Hpc2 := Lib.hid hpc2
                  rw [← hpc2] at HB2
                  clear hbc hal hpc2 e0 HPb HPb2 HbA1 HS1 HA1 HbC
                  go_upto_region 13 with fail
                  rw [← Hpc2.out]
                  generalize wc.alloc (.cells #[.string xu, .int .i64 xs, .int .i64 xk, .string xv] 30) = W3 at *
                  clear Hpc2
                  have l0 := (cell_of_blk HA2.out 0).trans (show _ = some (.string xu) from rfl)
                  have l1 := (cell_of_blk HA2.out 1).trans (show _ = some (.int .i64 xs) from rfl)
                  have l2 := (cell_of_blk HA2.out 2).trans (show _ = some (.int .i64 xk) from rfl)
                  have l3 := (cell_of_blk HA2.out 3).trans (show _ = some (.string xv) from rfl)
                  have m0 := (cell_of_blk HB2.out 0).trans (show _ = some (.string xu) from rfl)
                  have m1 := (cell_of_blk HB2.out 1).trans (show _ = some (.int .i64 xs) from rfl)
                  have m2 := (cell_of_blk HB2.out 2).trans (show _ = some (.int .i64 xk) from rfl)
                  have m3 := (cell_of_blk HB2.out 3).trans (show _ = some (.string xv) from rfl)
                  have hne := fun W => neq_en xu xs xk xv W
                  go_wp2_with fail
                  go_roundw
                  case rel => exact ⟨k + 1, by omega, by go_num, HbC1.out⟩
                  case measure => simp [intOf]; omega
                · rw [hse2] at hpb
                  simp only [Option.getD_some, Option.isSome_some, Option.getD_none, Option.isSome_none, En.nil, Ky.nil] at hpa hpb
                  have Hdu := Lib.hid hdu
                  obtain ⟨⟨xu, xs, xk⟩, xv⟩ := y
                  dsimp only at hpa hpb hk2
                  subst hk2
                  clear hse2 hpk hdu
                  have HPa := Lib.hid (hpa.out)
                  have HPb := Lib.hid (hpb.out)
                  clear hpa hpb
                  go_upto_region 11 with fail
                  rw [← Hsb.out]
                  generalize wi.alloc (.cells #[.string u, .int .i64 sq, .int .i64 kd, .string val] 30) = W at *
                  clear Hsb d0 d1 d2 d3
                  have HBw := Lib.hid (blk_bels HbW.out HBE.out)
                  have kb0 := (cell_of_blk (HBw.out) 0).trans (show _ = some (.slice (some ⟨be, off, none⟩) n0 c0) from rfl)
                  have e0 := (cell_of_blk HS.out 0).trans (show _ = some (.string u) from rfl)
                  have HPa2 := Lib.hid (HPa.out W HbW.out)
                  go_wp2_with fail
                  refine HPa2.out.mono ?_
                  rintro e wa ⟨rfl, hba⟩
                  have HbA := Lib.hid (HbW.out.trans (hba.mono HbW.out.size))
                  have HSa := Lib.hid (blk_bels hba HS.out)
                  have hal : Below wa.heap.size wa (wa.alloc (.cells #[.string xu, .int .i64 xs, .int .i64 2, .string xv] 30)) := (Below.refl _ _).alloc (Nat.le_refl _) _
                  have HS1 := Lib.hid (blk_bels hal HSa.out)
                  have HA1 := Lib.hid (blk_of_alloc wa (.cells #[.string xu, .int .i64 xs, .int .i64 2, .string xv] 30))
                  have HbA1 := Lib.hid (HbA.out.trans (hal.mono HbA.out.size))
                  obtain ⟨pa, hpa2⟩ : ∃ o, o = wa.heap.size := ⟨_, rfl⟩
                  have Hpa2 := Lib.hid hpa2
                  rw [← hpa2] at HA1
                  clear hba hal hpa2 kb0 e0 HPa HPa2 HbW HS HSa HbA HBw
                  go_upto_region 12 with fail
                  rw [← Hpa2.out]
                  generalize wa.alloc (.cells #[.string xu, .int .i64 xs, .int .i64 2, .string xv] 30) = W2 at *
                  clear Hpa2
                  have e0 := (cell_of_blk HS1.out 0).trans (show _ = some (.string u) from rfl)
                  have HPb2 := Lib.hid (HPb.out W2 HbA1.out)
                  go_wp2_with fail
                  refine HPb2.out.mono ?_
                  rintro e wc ⟨rfl, hbc⟩
                  have HbC := Lib.hid (HbA1.out.trans (hbc.mono HbA1.out.size))
                  have hal : Below wc.heap.size wc (wc.alloc (.cells #[.string ⟨#[]⟩, .int .i64 0, .int .i64 0, .string ⟨#[]⟩] 30)) := (Below.refl _ _).alloc (Nat.le_refl _) _
                  have HS2 := Lib.hid (blk_bels hal (blk_bels hbc HS1.out))
                  have HA2 := Lib.hid (blk_bels hal (blk_bels hbc HA1.out))
                  have HB2 := Lib.hid (blk_of_alloc wc (.cells #[.string ⟨#[]⟩, .int .i64 0, .int .i64 0, .string ⟨#[]⟩] 30))
                  have HbC1 := Lib.hid (HbC.out.trans (hal.mono HbC.out.size))
                  obtain ⟨pc, hpc2⟩ : ∃ o, o = wc.heap.size := ⟨_, rfl⟩
                  have Hpc2 := Lib.hid hpc2
                  rw [← hpc2] at HB2
                  clear hbc hal hpc2 e0 HPb HPb2 HbA1 HS1 HA1 HbC
                  go_upto_region 13 with fail
                  rw [← Hpc2.out]
                  generalize wc.alloc (.cells #[.string ⟨#[]⟩, .int .i64 0, .int .i64 0, .string ⟨#[]⟩] 30) = W3 at *
                  clear Hpc2
                  have l2 := (cell_of_blk HA2.out 2).trans (show _ = some (.int .i64 2) from rfl)
                  have e0 := (cell_of_blk HS2.out 0).trans (show _ = some (.string u) from rfl)
                  have HBw := Lib.hid (blk_bels HbC1.out HBE.out)
                  have HWw := Lib.hid (blk_bels HbC1.out HWE.out)
                  have kb2 := (cell_of_blk (HBw.out) 2).trans (show _ = some (.int .i64 a) from rfl)
                  have g0 := (cell_of_blk (HWw.out) 0).trans (show _ = some (.slice xa0 xn0 xc0) from rfl)
                  have g1 := (cell_of_blk (HWw.out) 1).trans (show _ = some (.slice xa1 xn1 xc1) from rfl)
                  have g2 := (cell_of_blk (HWw.out) 2).trans (show _ = some (.slice xa2 xn2 xc2) from rfl)
                  have g3 := (cell_of_blk (HWw.out) 3).trans (show _ = some (.slice xa3 xn3 xc3) from rfl)
                  have HD2 := HD.out W3 (HbBE.out.trans (HbC1.out.mono HbBE.out.size)) u
                  rw [Hdu.out] at HD2
                  have HD3 := Lib.hid HD2
                  clear HD2
                  go_wp2_with fail
                  refine HD3.out.mono ?_
                  rintro e w9 ⟨rfl, hb9⟩
                  have Hb9 := Lib.hid (HbC1.out.trans (hb9.mono HbC1.out.size))
                  clear hb9 HD3
                  go_wp2_with fail
                  go_roundw
                  case rel => exact ⟨k + 1, by omega, by go_num, Hb9.out⟩
                  case measure => simp [intOf]; omega
            · obtain rfl : k = n0 := by omega
              go_wp2_with fail
              go_roundw
              case rel => exact ⟨j + 1, by omega, by go_num, Hbi.out⟩
              case measure => simp [intOf]; omega
        · obtain rfl : j = 1 + n1 := by omega
          clear Hseen HxS HSl
          have HBq := Lib.hid (blk_bels Hbq.out HBE.out)
          have HWq := Lib.hid (blk_bels Hbq.out HWE.out)
          have kb1 := (cell_of_blk (HBq.out) 1).trans (show _ = some (.slice a1 n1 c1) from rfl)
          have kb2 := (cell_of_blk (HBq.out) 2).trans (show _ = some (.int .i64 a) from rfl)
          have g0 := (cell_of_blk (HWq.out) 0).trans (show _ = some (.slice xa0 xn0 xc0) from rfl)
          have g1 := (cell_of_blk (HWq.out) 1).trans (show _ = some (.slice xa1 xn1 xc1) from rfl)
          have g2 := (cell_of_blk (HWq.out) 2).trans (show _ = some (.slice xa2 xn2 xc2) from rfl)
          have g3 := (cell_of_blk (HWq.out) 3).trans (show _ = some (.slice xa3 xn3 xc3) from rfl)
          have hK2 := HKa.out wq (HbBE.out.trans (Hbq.out.mono HbBE.out.size)) a6 LF.length c6 LF (isSl_own en_len (own_below HoE.out Hbq.out)) (by omega)
          rw [keepTo_ord LF zs dp Hord.out (fun x hx => (right_s HR.out (Hsub.out x hx)).1), Hag.out] at hK2
          have HK2 := Lib.hid hK2
          clear hK2
          go_wp2_with fail
          refine HK2.out.mono ?_
          rintro e w8 ⟨v8, rfl, hown8, hb8⟩
          obtain ⟨a8, c8, rfl⟩ := own_slice hown8
          have Hb8 := Lib.hid (Hbq.out.trans (hb8.mono Hbq.out.size))
          have HB8 := Lib.hid (blk_bels hb8 HBq.out)
          have Ho8 := Lib.hid hown8
          have HSm : Hid (∀ A : World, Below w8.heap.size w8 A → Calls Try.prog 12 #[.slice a8 LF.length c8, .slice a6 LF.length c6] A fun e w' => e = .returned (.bool true) ∧ Below A.heap.size A w') := Lib.hid (fun A hA => (same_any (.slice a8 LF.length c8) (.slice a6 LF.length c6) LF A (isSl_own en_len (own_below Ho8.out hA)) (isSl_own en_len (own_below HoE.out (Hb8.out.trans (hA.mono Hb8.out.size))))).mono fun e w' h => ⟨h.1, by obtain ⟨-, n, rfl⟩ := h; exact below_drewN (Below.refl _ _) n⟩)
          have HGo := Lib.hid (fun (A : World) (hA : Below w8.heap.size w8 A) => gone_any (.slice a0 n0 c0) (.slice a6 LF.length c6) l LF A (H0.out.below (HbwE.out.trans ((Hb8.out.trans (hA.mono Hb8.out.size)).mono HbwE.out.size))) (isSl_own en_len (own_below HoE.out (Hb8.out.trans (hA.mono Hb8.out.size)))) (by rw [← Hn0.out]; omega) (by omega) (fun x hx => right_good HR.out hx) (fun x hx => right_good HR.out (Hsub.out x hx)))
          obtain ⟨gn, hgn⟩ : ∃ n, n = (goneE l LF).length := ⟨_, rfl⟩
          rw [← hgn] at HGo
          have hgn2 : (gn : Int) = (n0 : Int) - (LF.length : Int) := by rw [hgn, Hgone.out, ← Hn0.out]; omega
          have hgw : IntKind.i64.wrap ((n0 : Int) - (LF.length : Int)) = (gn : Int) := by rw [← hgn2]; exact IntWalk.i64_in _ (by omega)
          clear hown8 hb8 kb1 kb2 g0 g1 g2 g3 HK2 HBq HWq hgn hgn2
          have kb0 := (cell_of_blk HB8.out 0).trans (show _ = some (.slice a0 n0 c0) from rfl)
          go_upto_region 18 with fail
          refine wp_region_held_drew (S := fun V' => Hid (Below w8.heap.size w8 V')) (by kernel_rfl) (Lib.hid ((Below.refl _ _).drew)) (fun hS0 => ?_)
          refine wpAnyH_take (i := 0) (oi := { dst := some 121, op := Op.move (Operand.tmp 13), type := 22, pos := "law.go:166", after := #[], guard := none }) (v := ?_) rfl (by kernel_rfl) (by kernel_rfl) (by kernel_rfl) (fun _ _ _ h => h) (Or.inl ⟨by rfl, ?hy1⟩) hS0 ?_
          case hy1 => (intro V hSw; (try dsimp only at hSw); clear hSw; go_simp; try with_reducible rfl)
          try simp only [Act.put, List.setIfInBounds_toArray, List.set_cons_zero, List.set_cons_succ]
          refine wpAnyH_take (i := 1) (oi := { dst := some 122, op := Op.move (Operand.tmp 4), type := 22, pos := "law.go:166", after := #[], guard := none }) (v := ?_) rfl (by kernel_rfl) (by kernel_rfl) (by kernel_rfl) (fun _ _ _ h => h) (Or.inl ⟨by rfl, ?hy2⟩) hS0 ?_
          case hy2 => (intro V hSw; (try dsimp only at hSw); clear hSw; go_simp; try with_reducible rfl)
          try simp only [Act.put, List.setIfInBounds_toArray, List.set_cons_zero, List.set_cons_succ]
          refine wpAnyH_ready (rs := [2]) (by kernel_rfl) (by simp) (AllReadyH.cons rfl (fun K hK => ?_) AllReadyH.nil)
          go_simp
          refine (HSm.out _ hS0.out).mono ?_
          rintro e wv3 ⟨rfl, hv3⟩
          have hS3 := Lib.hid (hS0.out.trans (hv3.mono hS0.out.size))
          clear hv3
          refine hK.out _ _ hS3 (fun _ => ?_)
          clear hK K
          try simp only [Act.put, List.setIfInBounds_toArray, List.set_cons_zero, List.set_cons_succ]
          refine wpAnyH_take (i := 3) (oi := { dst := some 124, op := Op.move (Operand.tmp 123), type := 4, pos := "law.go:166", after := #[{ on := 2, ground := Ground.data }, { on := 2, ground := Ground.chain }], guard := none }) (v := ?_) rfl (by kernel_rfl) (by kernel_rfl) (by kernel_rfl) (fun _ _ _ h => h) (Or.inl ⟨by rfl, ?hy4⟩) hS3 ?_
          case hy4 => (intro V hSw; (try dsimp only at hSw); clear hSw; go_simp; try with_reducible rfl)
          try simp only [Act.put, List.setIfInBounds_toArray, List.set_cons_zero, List.set_cons_succ]
          refine wpAnyH_take (i := 4) (oi := { dst := some 125, op := Op.fieldAddr 54 (Operand.tmp 1) 0, type := 0, pos := "law.go:166", after := #[{ on := 3, ground := Ground.guard }], guard := some (3, true) }) (v := ?_) rfl (by kernel_rfl) (by kernel_rfl) (by kernel_rfl) (fun _ _ _ h => h) (Or.inl ⟨by rfl, ?hy5⟩) hS3 ?_
          case hy5 => (intro V hSw; (try dsimp only at hSw); clear hSw; go_simp; try with_reducible rfl)
          try simp only [Act.put, List.setIfInBounds_toArray, List.set_cons_zero, List.set_cons_succ]
          refine wpAnyH_take (i := 5) (oi := { dst := some 126, op := Op.load 22 (Operand.tmp 125), type := 22, pos := "law.go:166", after := #[{ on := 4, ground := Ground.data }, { on := 3, ground := Ground.guard }], guard := some (3, true) }) (v := ?_) rfl (by kernel_rfl) (by kernel_rfl) (by kernel_rfl) (fun _ _ _ h => h) (Or.inl ⟨by rfl, ?hy6⟩) hS3 ?_
          case hy6 => (intro V hSw; (try dsimp only at hSw); have q0 := grow_cell hSw.out (block_lt_of_cell kb0) kb0; clear hSw; go_simp; try with_reducible rfl)
          try simp only [Act.put, List.setIfInBounds_toArray, List.set_cons_zero, List.set_cons_succ]
          refine wpAnyH_take (i := 6) (oi := { dst := some 127, op := Op.move (Operand.tmp 4), type := 22, pos := "law.go:166", after := #[{ on := 3, ground := Ground.guard }], guard := some (3, true) }) (v := ?_) rfl (by kernel_rfl) (by kernel_rfl) (by kernel_rfl) (fun _ _ _ h => h) (Or.inl ⟨by rfl, ?hy7⟩) hS3 ?_
          case hy7 => (intro V hSw; (try dsimp only at hSw); clear hSw; go_simp; try with_reducible rfl)
          try simp only [Act.put, List.setIfInBounds_toArray, List.set_cons_zero, List.set_cons_succ]
          refine wpAnyH_take (i := 9) (oi := { dst := some 130, op := Op.fieldAddr 54 (Operand.tmp 1) 0, type := 0, pos := "law.go:166", after := #[{ on := 3, ground := Ground.guard }], guard := some (3, true) }) (v := ?_) rfl (by kernel_rfl) (by kernel_rfl) (by kernel_rfl) (fun _ _ _ h => h) (Or.inl ⟨by rfl, ?hy8⟩) hS3 ?_
          case hy8 => (intro V hSw; (try dsimp only at hSw); clear hSw; go_simp; try with_reducible rfl)
          try simp only [Act.put, List.setIfInBounds_toArray, List.set_cons_zero, List.set_cons_succ]
          refine wpAnyH_take (i := 10) (oi := { dst := some 131, op := Op.load 22 (Operand.tmp 130), type := 22, pos := "law.go:166", after := #[{ on := 9, ground := Ground.data }, { on := 3, ground := Ground.guard }], guard := some (3, true) }) (v := ?_) rfl (by kernel_rfl) (by kernel_rfl) (by kernel_rfl) (fun _ _ _ h => h) (Or.inl ⟨by rfl, ?hy9⟩) hS3 ?_
          case hy9 => (intro V hSw; (try dsimp only at hSw); have q0 := grow_cell hSw.out (block_lt_of_cell kb0) kb0; clear hSw; go_simp; try with_reducible rfl)
          try simp only [Act.put, List.setIfInBounds_toArray, List.set_cons_zero, List.set_cons_succ]
          refine wpAnyH_take (i := 11) (oi := { dst := some 132, op := Op.call { callee := Callee.builtin Builtin.len, args := #[Operand.tmp 131], argTypes := #[22] }, type := 3, pos := "law.go:166", after := #[{ on := 10, ground := Ground.data }, { on := 3, ground := Ground.guard }], guard := some (3, true) }) (v := ?_) rfl (by kernel_rfl) (by kernel_rfl) (by kernel_rfl) (fun _ _ _ h => h) (Or.inl ⟨by rfl, ?hy10⟩) hS3 ?_
          case hy10 => (intro V hSw; (try dsimp only at hSw); clear hSw; go_simp; try with_reducible rfl)
          try simp only [Act.put, List.setIfInBounds_toArray, List.set_cons_zero, List.set_cons_succ]
          refine wpAnyH_take (i := 12) (oi := { dst := some 133, op := Op.move (Operand.tmp 4), type := 22, pos := "law.go:166", after := #[{ on := 3, ground := Ground.guard }], guard := some (3, true) }) (v := ?_) rfl (by kernel_rfl) (by kernel_rfl) (by kernel_rfl) (fun _ _ _ h => h) (Or.inl ⟨by rfl, ?hy11⟩) hS3 ?_
          case hy11 => (intro V hSw; (try dsimp only at hSw); clear hSw; go_simp; try with_reducible rfl)
          try simp only [Act.put, List.setIfInBounds_toArray, List.set_cons_zero, List.set_cons_succ]
          refine wpAnyH_take (i := 13) (oi := { dst := some 134, op := Op.call { callee := Callee.builtin Builtin.len, args := #[Operand.tmp 133], argTypes := #[22] }, type := 3, pos := "law.go:166", after := #[{ on := 12, ground := Ground.data }, { on := 3, ground := Ground.guard }], guard := some (3, true) }) (v := ?_) rfl (by kernel_rfl) (by kernel_rfl) (by kernel_rfl) (fun _ _ _ h => h) (Or.inl ⟨by rfl, ?hy12⟩) hS3 ?_
          case hy12 => (intro V hSw; (try dsimp only at hSw); clear hSw; go_simp; try with_reducible rfl)
          try simp only [Act.put, List.setIfInBounds_toArray, List.set_cons_zero, List.set_cons_succ]
          refine wpAnyH_take (i := 14) (oi := { dst := some 135, op := Op.binOp BinOp.sub 3 (Operand.tmp 132) (Operand.tmp 134) 3, type := 3, pos := "law.go:166", after := #[{ on := 11, ground := Ground.data }, { on := 13, ground := Ground.data }, { on := 3, ground := Ground.guard }], guard := some (3, true) }) (v := ?_) rfl (by kernel_rfl) (by kernel_rfl) (by kernel_rfl) (fun _ _ _ h => h) (Or.inl ⟨by rfl, ?hy13⟩) hS3 ?_
          case hy13 => (intro V hSw; (try dsimp only at hSw); clear hSw; go_simp; try with_reducible rfl)
          try simp only [Act.put, List.setIfInBounds_toArray, List.set_cons_zero, List.set_cons_succ]
          refine wpAnyH_ready (rs := [7]) (by kernel_rfl) (by simp) (AllReadyH.cons rfl (fun K hK => ?_) AllReadyH.nil)
          go_simp
          refine (HGo.out _ hS3.out).mono ?_
          rintro e wv14 ⟨vg14, rfl, hown14, hv14⟩
          obtain ⟨ga14, gc14, rfl⟩ := own_slice hown14
          have hS14 := Lib.hid (hS3.out.trans (hv14.mono hS3.out.size))
          clear hv14 hown14
          refine hK.out _ _ hS14 (fun _ => ?_)
          clear hK K
          try simp only [Act.put, List.setIfInBounds_toArray, List.set_cons_zero, List.set_cons_succ]
          refine wpAnyH_take (i := 8) (oi := { dst := some 129, op := Op.call { callee := Callee.builtin Builtin.len, args := #[Operand.tmp 128], argTypes := #[22] }, type := 3, pos := "law.go:166", after := #[{ on := 7, ground := Ground.data }, { on := 3, ground := Ground.guard }], guard := some (3, true) }) (v := ?_) rfl (by kernel_rfl) (by kernel_rfl) (by kernel_rfl) (fun _ _ _ h => h) (Or.inl ⟨by rfl, ?hy15⟩) hS14 ?_
          case hy15 => (intro V hSw; (try dsimp only at hSw); clear hSw; go_simp; try with_reducible rfl)
          try simp only [Act.put, List.setIfInBounds_toArray, List.set_cons_zero, List.set_cons_succ]
          refine wpAnyH_take (i := 15) (oi := { dst := some 136, op := Op.binOp BinOp.eql 3 (Operand.tmp 129) (Operand.tmp 135) 3, type := 4, pos := "law.go:166", after := #[{ on := 8, ground := Ground.data }, { on := 14, ground := Ground.data }, { on := 3, ground := Ground.guard }], guard := some (3, true) }) (v := ?_) rfl (by kernel_rfl) (by kernel_rfl) (by kernel_rfl) (fun _ _ _ h => h) (Or.inl ⟨by rfl, ?hy16⟩) hS14 ?_
          case hy16 => (intro V hSw; (try dsimp only at hSw); clear hSw; go_simp; try with_reducible rfl)
          try simp only [Act.put, List.setIfInBounds_toArray, List.set_cons_zero, List.set_cons_succ]
          refine wpAnyH_take (i := 16) (oi := { dst := some 137, op := Op.pick (Operand.tmp 124) (Operand.tmp 136) (Operand.const (Value.bool false)), type := 4, pos := "law.go:166", after := #[{ on := 3, ground := Ground.data }, { on := 15, ground := Ground.data }], guard := none }) (v := ?_) rfl (by kernel_rfl) (by kernel_rfl) (by kernel_rfl) (fun _ _ _ h => h) (Or.inl ⟨by rfl, ?hy17⟩) hS14 ?_
          case hy17 => (intro V hSw; (try dsimp only at hSw); clear hSw; go_simp; try with_reducible rfl)
          try simp only [Act.put, List.setIfInBounds_toArray, List.set_cons_zero, List.set_cons_succ]
          refine wpAnyH_take (i := 17) (oi := { dst := some 138, op := Op.move (Operand.tmp 137), type := 4, pos := "law.go:166", after := #[{ on := 16, ground := Ground.data }, { on := 7, ground := Ground.chain }], guard := none }) (v := ?_) rfl (by kernel_rfl) (by kernel_rfl) (by kernel_rfl) (fun _ _ _ h => h) (Or.inl ⟨by rfl, ?hy18⟩) hS14 ?_
          case hy18 => (intro V hSw; (try dsimp only at hSw); clear hSw; go_simp; try with_reducible rfl)
          try simp only [Act.put, List.setIfInBounds_toArray, List.set_cons_zero, List.set_cons_succ]
          refine wpAnyH_ready (rs := [18]) (by kernel_rfl) (by simp) (AllReadyH.cons rfl (fun K hK => ?_) AllReadyH.nil)
          go_simp
          refine (awake_any _).mono ?_
          rintro e wv19 ⟨rfl, hv19⟩
          have hS19 := Lib.hid (hS14.out.trans (hv19.mono hS14.out.size))
          clear hv19
          refine hK.out _ _ hS19 (fun _ => ?_)
          clear hK K
          try simp only [Act.put, List.setIfInBounds_toArray, List.set_cons_zero, List.set_cons_succ]
          refine wpAnyH_take (i := 19) (oi := { dst := some 140, op := Op.pick (Operand.tmp 138) (Operand.tmp 139) (Operand.const (Value.bool false)), type := 4, pos := "law.go:166", after := #[{ on := 17, ground := Ground.data }, { on := 18, ground := Ground.data }], guard := none }) (v := ?_) rfl (by kernel_rfl) (by kernel_rfl) (by kernel_rfl) (fun _ _ _ h => h) (Or.inl ⟨by rfl, ?hy20⟩) hS19 ?_
          case hy20 => (intro V hSw; (try dsimp only at hSw); clear hSw; go_simp; try with_reducible rfl)
          try simp only [Act.put, List.setIfInBounds_toArray, List.set_cons_zero, List.set_cons_succ]
          refine wpAnyH_ready (rs := [20]) (by kernel_rfl) (by simp) (AllReadyH.cons rfl (fun K hK => ?_) AllReadyH.nil)
          go_simp
          refine hK.out _ _ hS19 (fun _ => ?_)
          clear hK K
          try simp only [Act.put, List.setIfInBounds_toArray, List.set_cons_zero, List.set_cons_succ]
          refine wpAnyH_done (by kernel_rfl) ?_ _
          go_wp2_with fail
          go_ret
          exact ⟨rfl, (HbwE.out.trans (Hb8.out.mono HbwE.out.size)).trans (hS19.out.mono (HbwE.out.trans (Hb8.out.mono HbwE.out.size)).size)⟩
end Go.Proofs.Ytkjfjcigmmooiaa.Tithe
