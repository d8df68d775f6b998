/- The law CompactOnce: walked. -/
import Derived.Test.YtkjfjcigmmooiaaEntOnceP
namespace Go.Proofs.Ytkjfjcigmmooiaa.Tithe
open Go.RowKit Go.Sort Go.Shelf
set_option linter.unusedVariables false
set_option linter.unusedSimpArgs false
set_option maxRecDepth 100000
attribute [local go_sem] Oper.semAt_some
set_option maxHeartbeats 6400000 in
theorem compactOnce_walk (v0 v1 v4 : Value) (l : List En) (zs : List Int) (a b : Int) (ss : List ByteArray) (more : Int) (w : World) (h0 : IsEs w v0 l) (h1 : IsZs w v1 zs) (h4 : IsSx w v4 ss) (hmo : (Lit.int .i64 more).wf = true) :
    Calls Try.prog 6 #[.agg #[v0, v1, .int .i64 a, .int .i64 b, v4], .int .i64 more] w fun e w' => e = .returned (.bool true) ∧ Below w.heap.size w w' := by
  obtain ⟨a0, c0, rfl, -, -, -⟩ := id h0
  obtain ⟨a1, c1, rfl, -, -, -⟩ := id h1
  obtain ⟨-, hc0, hm0, hx0⟩ := h0.at
  obtain ⟨-, hc1, hm1, -⟩ := h1.at
  obtain ⟨n0, hn0⟩ : ∃ n, n = l.length := ⟨_, rfl⟩
  obtain ⟨n1, hn1⟩ : ∃ n, n = zs.length := ⟨_, rfl⟩
  rw [← hn0] at hc0 h0 hx0 ⊢
  rw [← hn1] at hc1 h1 ⊢
  have H0 := Lib.hid h0
  have H1 := Lib.hid h1
  have H4 := Lib.hid h4
  have Hx0 := Lib.hid hx0
  have Hn0 := Lib.hid hn0
  have Hn1 := Lib.hid hn1
  have HB1 := Lib.hid (blk_of_alloc w (.cells #[.slice a0 n0 c0, .slice a1 n1 c1, .int .i64 a, .int .i64 b, v4] 54))
  have Hb1 := Lib.hid ((Below.refl w.heap.size w).alloc (Nat.le_refl _) (.cells #[.slice a0 n0 c0, .slice a1 n1 c1, .int .i64 a, .int .i64 b, v4] 54))
  clear h0 h1 h4 hx0 hn0 hn1
  obtain ⟨bx, hbx⟩ : ∃ o, o = w.heap.size := ⟨_, rfl⟩
  have Hbx := Lib.hid hbx
  rw [← hbx] at HB1
  clear hbx
  go_enter Try.func6, Try.ntmps6
  go_upto_region 1 with fail
  rw [← Hbx.out]
  generalize w.alloc (.cells #[.slice a0 n0 c0, .slice a1 n1 c1, .int .i64 a, .int .i64 b, v4] 54) = W1 at *
  clear Hbx
  have c10 := (cell_of_blk HB1.out 0).trans (show _ = some (.slice a0 n0 c0) from rfl)
  have Hr := Lib.hid (right_any (.slice a0 n0 c0) l 60 W1 (H0.out.below Hb1.out))
  go_wp2_with fail
  refine Hr.out.mono ?_
  rintro e w2 ⟨rfl, hb2⟩
  have HB2 := Lib.hid (blk_bels hb2 HB1.out)
  have Hb2 := Lib.hid (Hb1.out.trans (hb2.mono Hb1.out.size))
  clear hb2 Hr c10 HB1 Hb1
  cases hr : rightE l 60 with
  | false =>
    go_wp2_with fail
    refine (awake_any _).mono ?_
    rintro e w3 ⟨rfl, hb3⟩
    go_wp2_with fail
    go_ret
    exact ⟨rfl, Hb2.out.trans (hb3.mono Hb2.out.size)⟩
  | true =>
    have c21 := (cell_of_blk HB2.out 1).trans (show _ = some (.slice a1 n1 c1) from rfl)
    by_cases hsn : 10 < n1
    · have d10 : decide ((n1 : Int) > 10) = true := decide_eq_true (by omega)
      have d10' : decide ((10 : Int) < (n1 : Int)) = true := decide_eq_true (by omega)
      go_wp2_with fail
      refine (awake_any _).mono ?_
      rintro e w3 ⟨rfl, hb3⟩
      go_wp2_with fail
      go_ret
      exact ⟨rfl, Hb2.out.trans (hb3.mono Hb2.out.size)⟩
    · have d10 : decide ((n1 : Int) > 10) = false := decide_eq_false (by omega)
      have d10' : decide ((10 : Int) < (n1 : Int)) = false := decide_eq_false (by omega)
      have HR := Lib.hid hr
      have hl60 := right_len hr
      rw [← Hn0.out] at hl60
      have hn60 : n0 ≤ 60 := by omega
      have c23 := (cell_of_blk HB2.out 3).trans (show _ = some (.int .i64 b) from rfl)
      have c24 := (cell_of_blk HB2.out 4).trans (show _ = some v4 from rfl)
      have Hv := Lib.hid (version_any b v4 ss w2 (H4.out.below Hb2.out))
      have hn10 : n1 ≤ 10 := by omega
      clear hr hl60 hsn
      go_wp2_with fail
      refine Hv.out.mono ?_
      rintro e w3 hq
      obtain ⟨V, rfl, hV, hb3⟩ := hq.out
      obtain ⟨xa0, xn0, xc0, xa1, xn1, xc1, xa2, xn2, xc2, xa3, xn3, xc3, hc⟩ := vn_agg hV
      rw [hc]
      have Hc := Lib.hid hc
      have HB3 := Lib.hid (blk_old (blk_bels hb3 HB2.out) (.cells #[.slice xa0 xn0 xc0, .slice xa1 xn1 xc1, .slice xa2 xn2 xc2, .slice xa3 xn3 xc3] 58))
      have hal : Below w3.heap.size w3 (w3.alloc (.cells #[.slice xa0 xn0 xc0, .slice xa1 xn1 xc1, .slice xa2 xn2 xc2, .slice xa3 xn3 xc3] 58)) := (Below.refl _ _).alloc (Nat.le_refl _) _
      have hb23 := Hb2.out.trans (hb3.mono Hb2.out.size)
      have Hb3 := Lib.hid (hb23.trans (hal.mono hb23.size))
      have HV3 := Lib.hid (hV.below hal)
      have HW3 := Lib.hid (blk_of_alloc w3 (.cells #[.slice xa0 xn0 xc0, .slice xa1 xn1 xc1, .slice xa2 xn2 xc2, .slice xa3 xn3 xc3] 58))
      obtain ⟨vb, hvb⟩ : ∃ o, o = w3.heap.size := ⟨_, rfl⟩
      have Hvb := Lib.hid hvb
      rw [← hvb] at HW3
      clear hq hc hal hb23 hb3 hV hvb d10 d10' c21 c23 c24 HB2 Hb2 Hv
      go_upto_region 4 with fail
      rw [← Hvb.out]
      generalize w3.alloc (.cells #[.slice xa0 xn0 xc0, .slice xa1 xn1 xc1, .slice xa2 xn2 xc2, .slice xa3 xn3 xc3] 58) = wB at *
      clear Hvb
      obtain ⟨dp, hdp⟩ : ∃ dp : ByteArray → Bool, dp = fun u => deepB (tabs V.l 4) a u := ⟨_, rfl⟩
      have HKa : Hid (∀ (A : World), Below wB.heap.size wB A → ∀ (az : Option Addr) (nz cz : Nat) (zz : List Int), IsZs A (.slice az nz cz) zz → Calls Try.prog 20 #[.slice a0 n0 c0, .slice az nz cz, .agg #[.slice xa0 xn0 xc0, .slice xa1 xn1 xc1, .slice xa2 xn2 xc2, .slice xa3 xn3 xc3], .int .i64 a] A fun e w' => ∃ v', e = .returned v' ∧ w'.ownsRow A.heap.size 30 4 v' (keepL l zz dp).length (flat En.cells (keepL l zz dp)) ∧ Below A.heap.size A w') := Lib.hid (fun A hA az nz cz zz hzz => by
        have := keep_any a0 az n0 c0 nz cz l zz (groupsL l) (.slice xa0 xn0 xc0) (.slice xa1 xn1 xc1) (.slice xa2 xn2 xc2) (.slice xa3 xn3 xc3) a dp (fun _ => True) A (H0.out.below (Hb3.out.trans (hA.mono Hb3.out.size))) hzz (isGr_groups l) (by rw [← Hn0.out]; omega) (fun _ _ _ _ => trivial) (fun u A2 _ hA2 => by
          have hde := deeper_any V a u A2 (HV3.out.below (hA.trans (hA2.mono hA.size)))
          rw [Hc.out, show deepB (tabs V.l 4) a u = dp u from by rw [hdp]] at hde
          exact hde)
        rw [keepTo_eq l zz dp HR.out] at this
        exact this)
      clear hdp Hc HV3
      have kb0 := (cell_of_blk HB3.out 0).trans (show _ = some (.slice a0 n0 c0) from rfl)
      have kb1 := (cell_of_blk HB3.out 1).trans (show _ = some (.slice a1 n1 c1) from rfl)
      have kb2 := (cell_of_blk HB3.out 2).trans (show _ = some (.int .i64 a) from rfl)
      have g0 := (cell_of_blk HW3.out 0).trans (show _ = some (.slice xa0 xn0 xc0) from rfl)
      have g1 := (cell_of_blk HW3.out 1).trans (show _ = some (.slice xa1 xn1 xc1) from rfl)
      have g2 := (cell_of_blk HW3.out 2).trans (show _ = some (.slice xa2 xn2 xc2) from rfl)
      have g3 := (cell_of_blk HW3.out 3).trans (show _ = some (.slice xa3 xn3 xc3) from rfl)
      have HKf := Lib.hid (HKa.out wB (Below.refl _ _) a1 n1 c1 zs (H1.out.below Hb3.out))
      go_wp2_with fail
      refine HKf.out.mono ?_
      rintro e w6 ⟨v6, rfl, hown6, hb6⟩
      have hsubf : ∀ x ∈ keepL l zs dp, x ∈ l := fun x hx => keepL_sub hx
      have hlenf := keepL_le l zs dp
      have hmoref : ∀ x ∈ keepL l zs dp, x ∈ keepL l (zs ++ [more]) dp := fun x hx => keepL_more more hx
      obtain ⟨LF, hLF⟩ : ∃ K, K = keepL l zs dp := ⟨_, rfl⟩
      rw [← hLF] at hown6 hsubf hlenf hmoref
      obtain ⟨a6, c6, rfl⟩ := own_slice hown6
      have Ho6 := Lib.hid hown6
      have Hsubf := Lib.hid hsubf
      have Hmoref := Lib.hid hmoref
      rw [← Hn0.out] at hlenf
      have Hb6 := Lib.hid (Hb3.out.trans (hb6.mono Hb3.out.size))
      have HB6 := Lib.hid (blk_bels hb6 HB3.out)
      have HKg := Lib.hid (fun (A : World) (hA : Below w6.heap.size w6 A) (az : Option Addr) (nz cz : Nat) (hzz : IsZs A (.slice az nz cz) (zs ++ [more])) => HKa.out A (hb6.trans (hA.mono hb6.size)) az nz cz (zs ++ [more]) hzz)
      have r0 := grow_cell hb6 (block_lt_of_cell g0) g0
      have r1 := grow_cell hb6 (block_lt_of_cell g1) g1
      have r2 := grow_cell hb6 (block_lt_of_cell g2) g2
      have r3 := grow_cell hb6 (block_lt_of_cell g3) g3
      clear hown6 hb6 kb0 kb1 kb2 g0 g1 g2 g3 HKf HKa HB3 Hb3 hsubf hmoref hLF
      have kb0 := (cell_of_blk HB6.out 0).trans (show _ = some (.slice a0 n0 c0) from rfl)
      have kb1 := (cell_of_blk HB6.out 1).trans (show _ = some (.slice a1 n1 c1) from rfl)
      have kb2 := (cell_of_blk HB6.out 2).trans (show _ = some (.int .i64 a) from rfl)
      have hsubm : ∀ x ∈ keepL l (zs ++ [more]) dp, x ∈ l := fun x hx => keepL_sub hx
      have hlenm := keepL_le l (zs ++ [more]) dp
      obtain ⟨LM, hLM⟩ : ∃ K, K = keepL l (zs ++ [more]) dp := ⟨_, rfl⟩
      rw [← hLM] at Hmoref HKg hsubm hlenm
      rw [← Hn0.out] at hlenm
      have Hsubm := Lib.hid hsubm
      have Hz6 := Lib.hid (H1.out.below Hb6.out)
      clear hLM hsubm
      go_upto_region 5 with fail
      go_cut [7] (fun mv wc => ∃ am cm, mv = .slice am LM.length cm ∧ wc.ownsRow w6.heap.size 30 4 mv LM.length (flat En.cells LM) ∧ Below w6.heap.size w6 wc)
      case first =>
        refine wp_region_held_drew (S := fun V' => Hid (Below w6.heap.size w6 V')) (by kernel_rfl) (Lib.hid ((Below.refl _ _).drew)) (fun hS0 => ?_)
        refine wpAnyH_take (i := 0) (oi := { dst := some 34, op := Op.fieldAddr 54 (Operand.tmp 2) 0, type := 0, pos := "law.go:264", after := #[], guard := none }) (v := ?_) rfl (by kernel_rfl) (by kernel_rfl) (by kernel_rfl) (fun _ _ _ h => h) (Or.inl ⟨by rfl, ?hy1⟩) hS0 ?_
        case hy1 => (intro V hSw; (try dsimp only at hSw); clear hSw; go_simp; try with_reducible rfl)
        try simp only [Act.put, List.setIfInBounds_toArray, List.set_cons_zero, List.set_cons_succ]
        refine wpAnyH_take (i := 1) (oi := { dst := some 35, op := Op.load 22 (Operand.tmp 34), type := 22, pos := "law.go:264", after := #[{ on := 0, ground := Ground.data }], guard := none }) (v := ?_) rfl (by kernel_rfl) (by kernel_rfl) (by kernel_rfl) (fun _ _ _ h => h) (Or.inl ⟨by rfl, ?hy2⟩) hS0 ?_
        case hy2 => (intro V hSw; (try dsimp only at hSw); have q0 := grow_cell hSw.out (block_lt_of_cell kb0) kb0; have q1 := grow_cell hSw.out (block_lt_of_cell kb1) kb1; have q2 := grow_cell hSw.out (block_lt_of_cell kb2) kb2; have q3 := grow_cell hSw.out (block_lt_of_cell r0) r0; have q4 := grow_cell hSw.out (block_lt_of_cell r1) r1; have q5 := grow_cell hSw.out (block_lt_of_cell r2) r2; have q6 := grow_cell hSw.out (block_lt_of_cell r3) r3; clear hSw; go_simp; try with_reducible rfl)
        try simp only [Act.put, List.setIfInBounds_toArray, List.set_cons_zero, List.set_cons_succ]
        refine wpAnyH_take (i := 3) (oi := { dst := some 37, op := Op.fieldAddr 54 (Operand.tmp 2) 1, type := 0, pos := "law.go:264", after := #[], guard := none }) (v := ?_) rfl (by kernel_rfl) (by kernel_rfl) (by kernel_rfl) (fun _ _ _ h => h) (Or.inl ⟨by rfl, ?hy3⟩) hS0 ?_
        case hy3 => (intro V hSw; (try dsimp only at hSw); clear hSw; go_simp; try with_reducible rfl)
        try simp only [Act.put, List.setIfInBounds_toArray, List.set_cons_zero, List.set_cons_succ]
        refine wpAnyH_take (i := 4) (oi := { dst := some 38, op := Op.load 51 (Operand.tmp 37), type := 51, pos := "law.go:264", after := #[{ on := 3, ground := Ground.data }], guard := none }) (v := ?_) rfl (by kernel_rfl) (by kernel_rfl) (by kernel_rfl) (fun _ _ _ h => h) (Or.inl ⟨by rfl, ?hy4⟩) hS0 ?_
        case hy4 => (intro V hSw; (try dsimp only at hSw); have q0 := grow_cell hSw.out (block_lt_of_cell kb0) kb0; have q1 := grow_cell hSw.out (block_lt_of_cell kb1) kb1; have q2 := grow_cell hSw.out (block_lt_of_cell kb2) kb2; have q3 := grow_cell hSw.out (block_lt_of_cell r0) r0; have q4 := grow_cell hSw.out (block_lt_of_cell r1) r1; have q5 := grow_cell hSw.out (block_lt_of_cell r2) r2; have q6 := grow_cell hSw.out (block_lt_of_cell r3) r3; clear hSw; go_simp; try with_reducible rfl)
        try simp only [Act.put, List.setIfInBounds_toArray, List.set_cons_zero, List.set_cons_succ]
        refine wpAnyH_take (i := 6) (oi := { dst := some 40, op := Op.move (Operand.tmp 1), type := 3, pos := "law.go:264", after := #[], guard := none }) (v := ?_) rfl (by kernel_rfl) (by kernel_rfl) (by kernel_rfl) (fun _ _ _ h => h) (Or.inl ⟨by rfl, ?hy5⟩) hS0 ?_
        case hy5 => (intro V hSw; (try dsimp only at hSw); clear hSw; go_simp; try with_reducible rfl)
        try simp only [Act.put, List.setIfInBounds_toArray, List.set_cons_zero, List.set_cons_succ]
        refine wpAnyH_take (i := 9) (oi := { dst := some 43, op := Op.load 58 (Operand.tmp 5), type := 58, pos := "law.go:264", after := #[], guard := none }) (v := ?_) rfl (by kernel_rfl) (by kernel_rfl) (by kernel_rfl) (fun _ _ _ h => h) (Or.inl ⟨by rfl, ?hy6⟩) hS0 ?_
        case hy6 => (intro V hSw; (try dsimp only at hSw); have q0 := grow_cell hSw.out (block_lt_of_cell kb0) kb0; have q1 := grow_cell hSw.out (block_lt_of_cell kb1) kb1; have q2 := grow_cell hSw.out (block_lt_of_cell kb2) kb2; have q3 := grow_cell hSw.out (block_lt_of_cell r0) r0; have q4 := grow_cell hSw.out (block_lt_of_cell r1) r1; have q5 := grow_cell hSw.out (block_lt_of_cell r2) r2; have q6 := grow_cell hSw.out (block_lt_of_cell r3) r3; clear hSw; go_simp; try with_reducible rfl)
        try simp only [Act.put, List.setIfInBounds_toArray, List.set_cons_zero, List.set_cons_succ]
        refine wpAnyH_take (i := 10) (oi := { dst := some 44, op := Op.fieldAddr 54 (Operand.tmp 2) 2, type := 0, pos := "law.go:264", after := #[], guard := none }) (v := ?_) rfl (by kernel_rfl) (by kernel_rfl) (by kernel_rfl) (fun _ _ _ h => h) (Or.inl ⟨by rfl, ?hy7⟩) hS0 ?_
        case hy7 => (intro V hSw; (try dsimp only at hSw); clear hSw; go_simp; try with_reducible rfl)
        try simp only [Act.put, List.setIfInBounds_toArray, List.set_cons_zero, List.set_cons_succ]
        refine wpAnyH_take (i := 11) (oi := { dst := some 45, op := Op.load 3 (Operand.tmp 44), type := 3, pos := "law.go:264", after := #[{ on := 10, ground := Ground.data }], guard := none }) (v := ?_) rfl (by kernel_rfl) (by kernel_rfl) (by kernel_rfl) (fun _ _ _ h => h) (Or.inl ⟨by rfl, ?hy8⟩) hS0 ?_
        case hy8 => (intro V hSw; (try dsimp only at hSw); have q0 := grow_cell hSw.out (block_lt_of_cell kb0) kb0; have q1 := grow_cell hSw.out (block_lt_of_cell kb1) kb1; have q2 := grow_cell hSw.out (block_lt_of_cell kb2) kb2; have q3 := grow_cell hSw.out (block_lt_of_cell r0) r0; have q4 := grow_cell hSw.out (block_lt_of_cell r1) r1; have q5 := grow_cell hSw.out (block_lt_of_cell r2) r2; have q6 := grow_cell hSw.out (block_lt_of_cell r3) r3; clear hSw; go_simp; try with_reducible rfl)
        try simp only [Act.put, List.setIfInBounds_toArray, List.set_cons_zero, List.set_cons_succ]
        refine wpAnyH_ready (rs := [2, 7]) (by kernel_rfl) (by simp) (AllReadyH.cons rfl (fun K hK => ?_) (AllReadyH.cons rfl (fun K hK => ?_) AllReadyH.nil))
        · go_simp
          have hS9 := Lib.hid (hS0.out.alloc hS0.out.size (.cells #[] 3))
          have HE9 : Hid (OwnZs ((w6.drew).alloc (.cells #[] 3)) w6.heap.size (.slice (some ⟨w6.heap.size, 0, none⟩) 0 0) []) := Lib.hid (by
  have h := own_mono (ownsRow_empty (w6.drew) 3 1) hS0.out.size
  skip
  exact h)
          refine hK.out _ _ hS9 (fun _ => ?_)
          clear hK K
          try simp only [Act.put, List.setIfInBounds_toArray, List.set_cons_zero, List.set_cons_succ]
          refine wpAnyH_ready (rs := [5, 7]) (by kernel_rfl) (by simp) (AllReadyH.cons rfl (fun K hK => ?_) (AllReadyH.cons rfl (fun K hK => ?_) AllReadyH.nil))
          · obtain ⟨vA10, wA10, hrun10, hown10, hg10⟩ := app_zs (((w6.drew).alloc (.cells #[] 3))) w6.heap.size _ (.slice a1 n1 c1) [] zs HE9.out (Hz6.out.below hS9.out) (by rw [← Hn1.out]; simp; omega) hS9.out.size
            have hS10 := Lib.hid (hS9.out.grown hg10 hS9.out.size (fun g e => (HE9.out.lt g e).1))
            have hown10' : wA10.ownsRow w6.heap.size 3 1 vA10 n1 (flat intC zs) := by rw [List.nil_append] at hown10; unfold OwnZs at hown10; rw [← Hn1.out] at hown10; exact hown10
            obtain ⟨aA10, cA10, rfl⟩ := own_slice hown10'
            have HO10 : Hid (OwnZs wA10 w6.heap.size (.slice aA10 n1 cA10) zs) := Lib.hid (by unfold OwnZs; rw [← Hn1.out]; exact hown10')
            refine wp_append_run (.tmp 36) (.tmp 38) 51 rfl _ _ _ _ rfl rfl hrun10 ?_
            clear hrun10 hown10 hown10' hg10
            refine hK.out _ _ hS10 (fun _ => ?_)
            clear hK K
            try simp only [Act.put, List.setIfInBounds_toArray, List.set_cons_zero, List.set_cons_succ]
            refine wpAnyH_ready (rs := [7]) (by kernel_rfl) (by simp) (AllReadyH.cons rfl (fun K hK => ?_) AllReadyH.nil)
            go_simp
            have HO11 := Lib.hid (own_below HO10.out ((Below.refl (wA10).heap.size (wA10)).alloc (Nat.le_refl _) (.cells #[.int .i64 more] 3)))
            have hS11 := Lib.hid (hS10.out.alloc hS10.out.size (.cells #[.int .i64 more] 3))
            have HK11 : Hid (((wA10).alloc (.cells #[.int .i64 more] 3)).heap[wA10.heap.size]? = some (.cells #[.int .i64 more] 3 (0, 0))) := Lib.hid (by
  have h := blk_of_alloc (wA10) (.cells #[.int .i64 more] 3)
  skip
  exact h)
            refine hK.out _ _ hS11 (fun _ => ?_)
            clear hK K
            try simp only [Act.put, List.setIfInBounds_toArray, List.set_cons_zero, List.set_cons_succ]
            refine wpAnyH_ready (rs := [8]) (by kernel_rfl) (by simp) (AllReadyH.cons rfl (fun K hK => ?_) AllReadyH.nil)
            obtain ⟨vA12, wA12, hrun12, hown12, hg12⟩ := app_zs (((wA10).alloc (.cells #[.int .i64 more] 3))) w6.heap.size _ _ zs [more] HO11.out (zs_blk HK11.out) (by simp; rw [← Hn1.out]; omega) hS11.out.size
            have hS12 := Lib.hid (hS11.out.grown hg12 hS11.out.size (fun g e => (HO11.out.lt g e).1))
            have hown12' : wA12.ownsRow w6.heap.size 3 1 vA12 (n1 + 1) (flat intC (zs ++ [more])) := by unfold OwnZs at hown12; rw [List.length_append, ← Hn1.out] at hown12; exact hown12
            obtain ⟨aA12, cA12, rfl⟩ := own_slice hown12'
            have HO12 : Hid (OwnZs wA12 w6.heap.size (.slice aA12 (n1 + 1) cA12) (zs ++ [more])) := Lib.hid (by unfold OwnZs; rw [List.length_append, ← Hn1.out]; exact hown12')
            refine wp_append_run (.tmp 39) (.tmp 41) 51 rfl _ _ _ _ rfl rfl hrun12 ?_
            clear hrun12 hown12 hown12' hg12
            refine hK.out _ _ hS12 (fun _ => ?_)
            clear hK K
            try simp only [Act.put, List.setIfInBounds_toArray, List.set_cons_zero, List.set_cons_succ]
            refine wpAnyH_ready (rs := [12]) (by kernel_rfl) (by simp) (AllReadyH.cons rfl (fun K hK => ?_) AllReadyH.nil)
            go_simp
            have hkc13 := HKg.out _ hS12.out _ _ _ (isSl_own intC_len HO12.out)
            refine hkc13.mono ?_
            clear hkc13
            rintro e wv13 ⟨vk13, rfl, hown13, hv13⟩
            obtain ⟨ka13, kc13, rfl⟩ := own_slice hown13
            have hS13 := Lib.hid (hS12.out.trans (hv13.mono hS12.out.size))
            have HM13 := Lib.hid (own_mono hown13 hS12.out.size)
            clear hv13 hown13
            refine hK.out _ _ hS13 (fun _ => ?_)
            clear hK K
            try simp only [Act.put, List.setIfInBounds_toArray, List.set_cons_zero, List.set_cons_succ]
            refine wpAnyH_ready (rs := [13]) (by kernel_rfl) (by simp) (AllReadyH.cons rfl (fun K hK => ?_) AllReadyH.nil)
            go_simp
            refine hK.out _ _ hS13 (fun _ => ?_)
            clear hK K
            try simp only [Act.put, List.setIfInBounds_toArray, List.set_cons_zero, List.set_cons_succ]
            refine wpAnyH_done (by kernel_rfl) ?_ _
            go_wp2_with fail
            go_meet
            case rel => exact ⟨_, _, rfl, HM13.out, hS13.out⟩
          · go_simp
            have HO14 := Lib.hid (own_below HE9.out ((Below.refl (((w6.drew).alloc (.cells #[] 3))).heap.size (((w6.drew).alloc (.cells #[] 3)))).alloc (Nat.le_refl _) (.cells #[.int .i64 more] 3)))
            have hS14 := Lib.hid (hS9.out.alloc hS9.out.size (.cells #[.int .i64 more] 3))
            have HK14 : Hid (((((w6.drew).alloc (.cells #[] 3))).alloc (.cells #[.int .i64 more] 3)).heap[w6.heap.size + 1]? = some (.cells #[.int .i64 more] 3 (0, 0))) := Lib.hid (by
  have h := blk_of_alloc (((w6.drew).alloc (.cells #[] 3))) (.cells #[.int .i64 more] 3)
  rw [World.size_alloc] at h
  exact h)
            refine hK.out _ _ hS14 (fun _ => ?_)
            clear hK K
            try simp only [Act.put, List.setIfInBounds_toArray, List.set_cons_zero, List.set_cons_succ]
            refine wpAnyH_ready (rs := [5]) (by kernel_rfl) (by simp) (AllReadyH.cons rfl (fun K hK => ?_) AllReadyH.nil)
            obtain ⟨vA15, wA15, hrun15, hown15, hg15⟩ := app_zs (((((w6.drew).alloc (.cells #[] 3))).alloc (.cells #[.int .i64 more] 3))) w6.heap.size _ (.slice a1 n1 c1) [] zs HO14.out (Hz6.out.below hS14.out) (by rw [← Hn1.out]; simp; omega) hS14.out.size
            have hS15 := Lib.hid (hS14.out.grown hg15 hS14.out.size (fun g e => (HO14.out.lt g e).1))
            have hown15' : wA15.ownsRow w6.heap.size 3 1 vA15 n1 (flat intC zs) := by rw [List.nil_append] at hown15; unfold OwnZs at hown15; rw [← Hn1.out] at hown15; exact hown15
            obtain ⟨aA15, cA15, rfl⟩ := own_slice hown15'
            have HO15 : Hid (OwnZs wA15 w6.heap.size (.slice aA15 n1 cA15) zs) := Lib.hid (by unfold OwnZs; rw [← Hn1.out]; exact hown15')
            have HK15 := Lib.hid ((hg15.block _ (blk_lt HK14.out) (fun q => by simp [Value.ownBlock, World.size_alloc] at q)).trans HK14.out)
            refine wp_append_run (.tmp 36) (.tmp 38) 51 rfl _ _ _ _ rfl rfl hrun15 ?_
            clear hrun15 hown15 hown15' hg15
            refine hK.out _ _ hS15 (fun _ => ?_)
            clear hK K
            try simp only [Act.put, List.setIfInBounds_toArray, List.set_cons_zero, List.set_cons_succ]
            refine wpAnyH_ready (rs := [8]) (by kernel_rfl) (by simp) (AllReadyH.cons rfl (fun K hK => ?_) AllReadyH.nil)
            obtain ⟨vA16, wA16, hrun16, hown16, hg16⟩ := app_zs (wA15) w6.heap.size _ _ zs [more] HO15.out (zs_blk HK15.out) (by simp; rw [← Hn1.out]; omega) hS15.out.size
            have hS16 := Lib.hid (hS15.out.grown hg16 hS15.out.size (fun g e => (HO15.out.lt g e).1))
            have hown16' : wA16.ownsRow w6.heap.size 3 1 vA16 (n1 + 1) (flat intC (zs ++ [more])) := by unfold OwnZs at hown16; rw [List.length_append, ← Hn1.out] at hown16; exact hown16
            obtain ⟨aA16, cA16, rfl⟩ := own_slice hown16'
            have HO16 : Hid (OwnZs wA16 w6.heap.size (.slice aA16 (n1 + 1) cA16) (zs ++ [more])) := Lib.hid (by unfold OwnZs; rw [List.length_append, ← Hn1.out]; exact hown16')
            refine wp_append_run (.tmp 39) (.tmp 41) 51 rfl _ _ _ _ rfl rfl hrun16 ?_
            clear hrun16 hown16 hown16' hg16
            refine hK.out _ _ hS16 (fun _ => ?_)
            clear hK K
            try simp only [Act.put, List.setIfInBounds_toArray, List.set_cons_zero, List.set_cons_succ]
            refine wpAnyH_ready (rs := [12]) (by kernel_rfl) (by simp) (AllReadyH.cons rfl (fun K hK => ?_) AllReadyH.nil)
            go_simp
            have hkc17 := HKg.out _ hS16.out _ _ _ (isSl_own intC_len HO16.out)
            refine hkc17.mono ?_
            clear hkc17
            rintro e wv17 ⟨vk17, rfl, hown17, hv17⟩
            obtain ⟨ka17, kc17, rfl⟩ := own_slice hown17
            have hS17 := Lib.hid (hS16.out.trans (hv17.mono hS16.out.size))
            have HM17 := Lib.hid (own_mono hown17 hS16.out.size)
            clear hv17 hown17
            refine hK.out _ _ hS17 (fun _ => ?_)
            clear hK K
            try simp only [Act.put, List.setIfInBounds_toArray, List.set_cons_zero, List.set_cons_succ]
            refine wpAnyH_ready (rs := [13]) (by kernel_rfl) (by simp) (AllReadyH.cons rfl (fun K hK => ?_) AllReadyH.nil)
            go_simp
            refine hK.out _ _ hS17 (fun _ => ?_)
            clear hK K
            try simp only [Act.put, List.setIfInBounds_toArray, List.set_cons_zero, List.set_cons_succ]
            refine wpAnyH_done (by kernel_rfl) ?_ _
            go_wp2_with fail
            go_meet
            case rel => exact ⟨_, _, rfl, HM17.out, hS17.out⟩
        · go_simp
          have hS18 := Lib.hid (hS0.out.alloc hS0.out.size (.cells #[.int .i64 more] 3))
          have HK18 : Hid (((w6.drew).alloc (.cells #[.int .i64 more] 3)).heap[w6.heap.size]? = some (.cells #[.int .i64 more] 3 (0, 0))) := Lib.hid (by
  have h := blk_of_alloc (w6.drew) (.cells #[.int .i64 more] 3)
  skip
  exact h)
          refine hK.out _ _ hS18 (fun _ => ?_)
          clear hK K
          try simp only [Act.put, List.setIfInBounds_toArray, List.set_cons_zero, List.set_cons_succ]
          refine wpAnyH_ready (rs := [2]) (by kernel_rfl) (by simp) (AllReadyH.cons rfl (fun K hK => ?_) AllReadyH.nil)
          go_simp
          have HK19 := Lib.hid (blk_bels ((Below.refl (((w6.drew).alloc (.cells #[.int .i64 more] 3))).heap.size (((w6.drew).alloc (.cells #[.int .i64 more] 3)))).alloc (Nat.le_refl _) (.cells #[] 3)) HK18.out)
          have hS19 := Lib.hid (hS18.out.alloc hS18.out.size (.cells #[] 3))
          have HE19 : Hid (OwnZs ((((w6.drew).alloc (.cells #[.int .i64 more] 3))).alloc (.cells #[] 3)) w6.heap.size (.slice (some ⟨w6.heap.size + 1, 0, none⟩) 0 0) []) := Lib.hid (by
  have h := own_mono (ownsRow_empty (((w6.drew).alloc (.cells #[.int .i64 more] 3))) 3 1) hS18.out.size
  rw [World.size_alloc] at h
  exact h)
          refine hK.out _ _ hS19 (fun _ => ?_)
          clear hK K
          try simp only [Act.put, List.setIfInBounds_toArray, List.set_cons_zero, List.set_cons_succ]
          refine wpAnyH_ready (rs := [5]) (by kernel_rfl) (by simp) (AllReadyH.cons rfl (fun K hK => ?_) AllReadyH.nil)
          obtain ⟨vA20, wA20, hrun20, hown20, hg20⟩ := app_zs (((((w6.drew).alloc (.cells #[.int .i64 more] 3))).alloc (.cells #[] 3))) w6.heap.size _ (.slice a1 n1 c1) [] zs HE19.out (Hz6.out.below hS19.out) (by rw [← Hn1.out]; simp; omega) hS19.out.size
          have hS20 := Lib.hid (hS19.out.grown hg20 hS19.out.size (fun g e => (HE19.out.lt g e).1))
          have hown20' : wA20.ownsRow w6.heap.size 3 1 vA20 n1 (flat intC zs) := by rw [List.nil_append] at hown20; unfold OwnZs at hown20; rw [← Hn1.out] at hown20; exact hown20
          obtain ⟨aA20, cA20, rfl⟩ := own_slice hown20'
          have HO20 : Hid (OwnZs wA20 w6.heap.size (.slice aA20 n1 cA20) zs) := Lib.hid (by unfold OwnZs; rw [← Hn1.out]; exact hown20')
          have HK20 := Lib.hid ((hg20.block _ (blk_lt HK19.out) (fun q => by simp [Value.ownBlock, World.size_alloc] at q)).trans HK19.out)
          refine wp_append_run (.tmp 36) (.tmp 38) 51 rfl _ _ _ _ rfl rfl hrun20 ?_
          clear hrun20 hown20 hown20' hg20
          refine hK.out _ _ hS20 (fun _ => ?_)
          clear hK K
          try simp only [Act.put, List.setIfInBounds_toArray, List.set_cons_zero, List.set_cons_succ]
          refine wpAnyH_ready (rs := [8]) (by kernel_rfl) (by simp) (AllReadyH.cons rfl (fun K hK => ?_) AllReadyH.nil)
          obtain ⟨vA21, wA21, hrun21, hown21, hg21⟩ := app_zs (wA20) w6.heap.size _ _ zs [more] HO20.out (zs_blk HK20.out) (by simp; rw [← Hn1.out]; omega) hS20.out.size
          have hS21 := Lib.hid (hS20.out.grown hg21 hS20.out.size (fun g e => (HO20.out.lt g e).1))
          have hown21' : wA21.ownsRow w6.heap.size 3 1 vA21 (n1 + 1) (flat intC (zs ++ [more])) := by unfold OwnZs at hown21; rw [List.length_append, ← Hn1.out] at hown21; exact hown21
          obtain ⟨aA21, cA21, rfl⟩ := own_slice hown21'
          have HO21 : Hid (OwnZs wA21 w6.heap.size (.slice aA21 (n1 + 1) cA21) (zs ++ [more])) := Lib.hid (by unfold OwnZs; rw [List.length_append, ← Hn1.out]; exact hown21')
          refine wp_append_run (.tmp 39) (.tmp 41) 51 rfl _ _ _ _ rfl rfl hrun21 ?_
          clear hrun21 hown21 hown21' hg21
          refine hK.out _ _ hS21 (fun _ => ?_)
          clear hK K
          try simp only [Act.put, List.setIfInBounds_toArray, List.set_cons_zero, List.set_cons_succ]
          refine wpAnyH_ready (rs := [12]) (by kernel_rfl) (by simp) (AllReadyH.cons rfl (fun K hK => ?_) AllReadyH.nil)
          go_simp
          have hkc22 := HKg.out _ hS21.out _ _ _ (isSl_own intC_len HO21.out)
          refine hkc22.mono ?_
          clear hkc22
          rintro e wv22 ⟨vk22, rfl, hown22, hv22⟩
          obtain ⟨ka22, kc22, rfl⟩ := own_slice hown22
          have hS22 := Lib.hid (hS21.out.trans (hv22.mono hS21.out.size))
          have HM22 := Lib.hid (own_mono hown22 hS21.out.size)
          clear hv22 hown22
          refine hK.out _ _ hS22 (fun _ => ?_)
          clear hK K
          try simp only [Act.put, List.setIfInBounds_toArray, List.set_cons_zero, List.set_cons_succ]
          refine wpAnyH_ready (rs := [13]) (by kernel_rfl) (by simp) (AllReadyH.cons rfl (fun K hK => ?_) AllReadyH.nil)
          go_simp
          refine hK.out _ _ hS22 (fun _ => ?_)
          clear hK K
          try simp only [Act.put, List.setIfInBounds_toArray, List.set_cons_zero, List.set_cons_succ]
          refine wpAnyH_done (by kernel_rfl) ?_ _
          go_wp2_with fail
          go_meet
          case rel => exact ⟨_, _, rfl, HM22.out, hS22.out⟩
      case rest =>
        obtain ⟨am, cm, rfl, hownm, hbm⟩ := hcut
        clear kb0 kb1 kb2 r0 r1 r2 r3 HKg
        have hgf : ∀ x ∈ LF, GoodK x.key := fun x hx => right_good HR.out (Hsubf.out x hx)
        have hgm : ∀ x ∈ LM, GoodK x.key := fun x hx => right_good HR.out (Hsubm.out x hx)
        have hgl : ∀ x ∈ l, GoodK x.key := fun x hx => right_good HR.out hx
        have hem := isSl_own en_len hownm
        have hef := isSl_own en_len (own_below Ho6.out hbm)
        have hG1 := fun (A : World) (hA : Below wc.heap.size wc A) => gone_any _ _ LF LM A (hef.below hA) (hem.below hA) (by omega) (by omega) hgf hgm
        have hG3 := fun (A : World) (hA : Below wc.heap.size wc A) => gone_any (.slice am LM.length cm) (.slice a0 n0 c0) LM l A (hem.below hA) (H0.out.below ((Hb6.out.trans (hbm.mono Hb6.out.size)).trans (hA.mono (Hb6.out.trans (hbm.mono Hb6.out.size)).size))) (by omega) (by rw [← Hn0.out]; omega) hgm hgl
        rw [gone_nil Hmoref.out] at hG1
        rw [gone_nil Hsubm.out] at hG3
        have HG1 := Lib.hid hG1
        have HG3 := Lib.hid hG3
        have HBm := Lib.hid (blk_bels hbm HB6.out)
        have Hbm := Lib.hid (Hb6.out.trans (hbm.mono Hb6.out.size))
        clear hgf hgm hgl hem hef hG1 hG3 hownm hbm Ho6 Hb6 HB6 Hz6 Hsubf Hsubm Hmoref
        have HGa := Lib.hid (HG1.out wc (Below.refl _ _))
        go_wp2_with fail
        refine HGa.out.mono ?_
        rintro e w7 ⟨v7, rfl, hown7, hb7⟩
        obtain ⟨a7, c7, rfl⟩ := own_slice hown7
        have Hb7 := Lib.hid hb7
        simp only [List.length_nil]
        clear hown7 hb7 HGa
        go_wp2_with fail
        go_loopw [51] (fun iv wr => iv = .int .i64 0 ∧ wr = w7) (fun iv _ => 0)
        case atStart => exact ⟨rfl, rfl⟩
        case round =>
          obtain ⟨wo, rfl⟩ : ∃ wo : World, wo = wr := ⟨_, rfl⟩
          obtain ⟨rfl, rfl⟩ := hrel
          have HGb := Lib.hid (HG1.out wo Hb7.out)
          go_wp2_with fail
          refine HGb.out.mono ?_
          rintro e w8 ⟨v8, rfl, hown8, hb8⟩
          obtain ⟨a8, c8, rfl⟩ := own_slice hown8
          have Hb8 := Lib.hid (Hb7.out.trans (hb8.mono Hb7.out.size))
          have kb0 := (cell_of_blk (blk_bels Hb8.out HBm.out) 0).trans (show _ = some (.slice a0 n0 c0) from rfl)
          have HGc := Lib.hid (HG3.out w8 Hb8.out)
          simp only [List.length_nil]
          clear hown8 hb8 HGb
          go_wp2_with fail
          refine HGc.out.mono ?_
          rintro e w9 ⟨v9, rfl, hown9, hb9⟩
          obtain ⟨a9, c9, rfl⟩ := own_slice hown9
          have Hb9 := Lib.hid (Hb8.out.trans (hb9.mono Hb8.out.size))
          simp only [List.length_nil]
          clear hown9 hb9 HGc kb0
          go_wp2_with fail
          refine (awake_any _).mono ?_
          rintro e w10 ⟨rfl, hb10⟩
          go_wp2_with fail
          go_ret
          exact ⟨rfl, (Hbm.out.trans (Hb9.out.mono Hbm.out.size)).trans (hb10.mono (Hbm.out.trans (Hb9.out.mono Hbm.out.size)).size)⟩
end Go.Proofs.Ytkjfjcigmmooiaa.Tithe
