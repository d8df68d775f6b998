/- The document's bytes of a batch, and a frame: walked. -/
import Derived.Test.YtbnodgoccmhjkaaFlatRef
namespace Go.Proofs.Ytbnodgoccmhjkaa.Tithe
open Go.RowKit Go.Sort Go.Shelf
set_option linter.unusedVariables false
set_option linter.unusedSimpArgs false
set_option maxRecDepth 100000
attribute [local go_sem] Oper.semAt_some
set_option maxHeartbeats 6400000 in
theorem r10bytes_any (sn : Nat) (v : Value) (l : List Bo) (w : World) (h : IsOs w v l) (hok : okB (sn : Int) l = true) (hsm : ∀ x ∈ l, x.u.size ≤ 200 ∧ x.v.size ≤ 500) (hsn : sn < 9223372036854775808) :
    Calls Try.prog 46 #[.int .i64 sn, v] w fun e w' => ∃ v', e = .returned v' ∧ OwnBs w' w.heap.size v' (batchB sn l) ∧ Below w.heap.size w w' := by
  obtain ⟨a, c, rfl, -, -, -⟩ := id h
  obtain ⟨-, hc, hm, hx⟩ := h.at
  obtain ⟨n, hn⟩ : ∃ n, n = l.length := ⟨_, rfl⟩
  rw [← hn] at hc hx ⊢
  have Hx := Lib.hid hx
  have Hn := Lib.hid hn
  have Hsm := Lib.hid hsm
  have hok2 := hok
  unfold okB at hok2
  simp only [Bool.and_eq_true, decide_eq_true_eq] at hok2
  obtain ⟨⟨⟨⟨hn1, hn64⟩, -⟩, -⟩, hall⟩ := hok2
  rw [← Hn.out] at hn1 hn64
  have Hall := Lib.hid (List.all_eq_true.1 hall)
  have Hnum := Lib.hid (fun W => rnum_any sn W hsn)
  have Hnum2 := Lib.hid (fun W => rnum_any n W (by omega))
  clear h hx hn hsm hok hall
  go_enter Try.func46, Try.ntmps46
  go_wp2_with fail
  refine (Hnum.out _).mono ?_
  rintro e w2 ⟨v2, rfl, ho2, hb2⟩
  obtain ⟨q2, hq2⟩ : ∃ q, q = (encN sn).length := ⟨_, rfl⟩
  have ho2' := ho2
  rw [OwnBs, ← hq2] at ho2'
  obtain ⟨a2, c2, rfl⟩ := own_slice ho2'
  have Ho2 := Lib.hid ho2
  have Hb2 := Lib.hid hb2
  clear ho2 ho2' hb2 hq2
  go_wp2_with fail
  refine (Hnum2.out _).mono ?_
  rintro e w3 ⟨v3, rfl, ho3, hb3⟩
  have hbw3 := Hb2.out.trans (hb3.mono Hb2.out.size)
  have hel := encN_le sn
  have hel2 := encN_le n
  obtain ⟨v4, w4, hr4, ho4, hg4, -⟩ := app_bs w3 w.heap.size _ v3 (encN sn) (encN n) (own_below Ho2.out hb3) (isSl_own byteC_len ho3) (by omega) hbw3.size
  have Hb4 := Lib.hid (hbw3.trans ((Below.refl _ _).grown hg4 hbw3.size (fun g e => (own_below Ho2.out hb3).lt g e |>.1)))
  have Ho4 := Lib.hid ho4
  obtain ⟨q3, hq3⟩ : ∃ q, q = (encN n).length := ⟨_, rfl⟩
  rw [OwnBs, ← hq3] at ho3
  obtain ⟨a3, c3, rfl⟩ := own_slice ho3
  obtain ⟨q4, hq4⟩ : ∃ q, q = (encN sn ++ encN n).length := ⟨_, rfl⟩
  rw [← hq4] at ho4
  obtain ⟨a4, c4, rfl⟩ := own_slice ho4
  obtain ⟨PL, hPL⟩ : ∃ PL, PL = encN sn ++ encN n := ⟨_, rfl⟩
  have hPl : PL.length ≤ 20 := by rw [hPL, List.length_append]; omega
  have Ho5 : Hid (OwnBs w4 w.heap.size (.slice a4 q4 c4) PL) := Lib.hid (by rw [hPL]; exact Ho4.out)
  have HPL := Lib.hid hPL
  clear ho3 hb3 hbw3 ho4 hg4 hq3 hq4 hPL hel hel2 Ho4 Ho2 Hnum Hnum2
  go_wp2_with (at_builtin; first | (refine wpList_val rfl _ _ (run_append_op (.tmp 8) (.tmp 11) 95 95 rfl rfl rfl hr4) ?_) | (refine wpList_val rfl _ _ (run_append_op (.tmp 8) (.tmp 11) 95 95 rfl (by simp) (by simp) hr4) ?_))
  clear hr4
  go_loopw [5, 6] (fun ov iv wr => ∃ k : Nat, k ≤ n ∧ iv = .int .i64 k ∧ (∃ oa on oc, ov = .slice oa on oc ∧ OwnBs wr w.heap.size (.slice oa on oc) (PL ++ (l.take k).flatMap opB)) ∧ Below w.heap.size w wr) (fun _ iv _ => n - (intOf iv).toNat)
  case atStart => exact ⟨0, Nat.zero_le _, rfl, ⟨_, _, _, rfl, by rw [List.take_zero, List.flatMap_nil, List.append_nil]; exact Ho5.out⟩, Hb4.out⟩
  case round =>
    clear Ho5 Hb4 Hb2
    obtain ⟨wo, rfl⟩ : ∃ wo : World, wo = wr := ⟨_, rfl⟩
    obtain ⟨k, hk, rfl, ⟨oa, on, oc, rfl, hown⟩, hb⟩ := hrel
    have Hown := Lib.hid hown
    have Hb := Lib.hid hb
    clear hown hb
    by_cases hkn : k < n
    · obtain ⟨be, off, rfl, hcell⟩ := Hx.out (by omega)
      obtain ⟨x, hxk⟩ : ∃ x, l[k]? = some x := ⟨_, List.getElem?_eq_getElem (by rw [← Hn.out]; exact hkn)⟩
      have Hcw := Lib.hid (fun (V : World) (hV : Below w.heap.size w V) => IsOs.row (w := V) (fun i x hi j y hj => (hV.cell (block_lt_of_cell (hcell i x hi j y hj))).trans (hcell i x hi j y hj)) hxk)
      have hmem := List.mem_of_getElem? hxk
      have hsx := Hsm.out x hmem
      have hox := Hall.out x hmem
      have hlen : (PL ++ (l.take k).flatMap opB).length ≤ 47000 := by
        rw [List.length_append]
        have h1 := ops_le (l := l.take k) (fun y hy => Hsm.out y (List.mem_of_mem_take hy))
        rw [List.length_take] at h1
        have : min k l.length ≤ 64 := by rw [← Hn.out]; omega
        have : 721 * min k l.length ≤ 721 * 64 := Nat.mul_le_mul_left _ this
        omega
      have htk : (l.take (k + 1)).flatMap opB = (l.take k).flatMap opB ++ opB x := by rw [List.take_add_one, hxk, List.flatMap_append]; simp
      have Htk := Lib.hid htk
      clear hcell hxk htk hmem
      obtain ⟨kd, u, val⟩ := x
      dsimp only at hsx
      obtain ⟨hsu, hsv⟩ := hsx
      have hkd : kd = 1 ∨ kd = 2 := by
        unfold okO at hox
        simp only [Bool.and_eq_true, decide_eq_true_eq] at hox
        obtain ⟨⟨⟨⟨⟨h1, h2⟩, -⟩, -⟩, -⟩, -⟩ := hox
        omega
      obtain ⟨BL, hBL⟩ : ∃ BL, BL = PL ++ (l.take k).flatMap opB := ⟨_, rfl⟩
      rw [← hBL] at Hown hlen
      have HOo := Lib.hid Hown.out
      have HBL := Lib.hid hBL
      have hkn2 : (k : Int) < (n : Int) := by omega
      clear hBL hox Hown
      rcases hkd with rfl | rfl
      · obtain ⟨a1, n1, c1, w1, hr1, ho1, hb1⟩ := push_bs wo w.heap.size _ BL 1 HOo.out (by omega) Hb.out.size
        have Ho1 := Lib.hid ho1
        have Hb1 := Lib.hid (Hb.out.trans hb1)
        obtain ⟨d0, -, -⟩ := Hcw.out wo Hb.out
        try dsimp only at d0
        clear ho1 hb1
        obtain ⟨-, d1t, d2t⟩ := Hcw.out w1 Hb1.out
        try dsimp only at d1t d2t
        obtain ⟨cct, wct, hrct, hbst, hblt, -, -⟩ := conv_str u w1 (by omega)
        have HCt := Lib.hid (Hb1.out.trans (hblt.mono Hb1.out.size))
        have HOct := Lib.hid (own_below Ho1.out hblt)
        have htxt := rtext_any _ (bytesO u) wct hbst (by rw [bytesO_len]; omega)
        rw [bytesO_len] at htxt
        have Htxt := Lib.hid htxt
        clear hbst hblt htxt
        go_wp2_with (at_builtin; first | (refine wpList_val rfl _ _ (run_append_op (.tmp 19) (.tmp 26) 95 95 rfl rfl rfl hr1) ?_) | (refine wpList_val rfl _ _ (run_append_op (.tmp 19) (.tmp 26) 95 95 rfl (by simp) (by simp) hr1) ?_))
        refine Htxt.out.mono ?_
        rintro e wt ⟨vt, rfl, hott, hbtt⟩
        obtain ⟨vat, wat, hrat, hoat, hgat, -⟩ := app_bs wt w.heap.size _ vt (BL ++ [1]) (encN u.size ++ bytesO u) (own_below HOct.out hbtt) (isSl_own byteC_len hott) (by have := encN_le u.size; have := encN_le val.size; simp only [List.length_append, bytesO_len, List.length_cons, List.length_nil]; omega) (HCt.out.trans (hbtt.mono HCt.out.size)).size
        have HOt : Hid (OwnBs wat w.heap.size vat ((BL ++ [1]) ++ (encN u.size ++ bytesO u))) := Lib.hid hoat
        have HBt := Lib.hid ((HCt.out.trans (hbtt.mono HCt.out.size)).trans ((Below.refl _ _).grown hgat (HCt.out.trans (hbtt.mono HCt.out.size)).size (fun g e => (own_below HOct.out hbtt).lt g e |>.1)))
        obtain ⟨nnt, hnnt⟩ : ∃ q, q = ((BL ++ [1]) ++ (encN u.size ++ bytesO u)).length := ⟨_, rfl⟩
        rw [← hnnt] at hoat
        obtain ⟨aat, act, rfl⟩ := own_slice hoat
        obtain ⟨ntt, hntt⟩ : ∃ q, q = (encN u.size ++ bytesO u).length := ⟨_, rfl⟩
        rw [OwnBs, ← hntt] at hott
        obtain ⟨att, ctt, rfl⟩ := own_slice hott
        clear hott hbtt hoat hgat hnnt hntt hrct d1t d2t Htxt
        obtain ⟨d0', -, -⟩ := Hcw.out wat HBt.out
        try dsimp only at d0'
        obtain ⟨-, d1s, d2s⟩ := Hcw.out wat HBt.out
        try dsimp only at d1s d2s
        obtain ⟨ccs, wcs, hrcs, hbss, hbls, -, -⟩ := conv_str val wat (by omega)
        have HCs := Lib.hid (HBt.out.trans (hbls.mono HBt.out.size))
        have HOcs := Lib.hid (own_below HOt.out hbls)
        have htxs := rtext_any _ (bytesO val) wcs hbss (by rw [bytesO_len]; omega)
        rw [bytesO_len] at htxs
        have Htxs := Lib.hid htxs
        clear hbss hbls htxs
        go_wp2_with (at_builtin; first | (refine wpList_val rfl _ _ (run_append_op (.tmp 28) (.tmp 35) 95 95 rfl rfl rfl hrat) ?_) | (refine wpList_val rfl _ _ (run_append_op (.tmp 28) (.tmp 35) 95 95 rfl (by simp) (by simp) hrat) ?_))
        refine Htxs.out.mono ?_
        rintro e ws ⟨vs, rfl, hots, hbts⟩
        obtain ⟨vas, was, hras, hoas, hgas, -⟩ := app_bs ws w.heap.size _ vs ((BL ++ [1]) ++ (encN u.size ++ bytesO u)) (encN val.size ++ bytesO val) (own_below HOcs.out hbts) (isSl_own byteC_len hots) (by have := encN_le u.size; have := encN_le val.size; simp only [List.length_append, bytesO_len, List.length_cons, List.length_nil]; omega) (HCs.out.trans (hbts.mono HCs.out.size)).size
        have HOs : Hid (OwnBs was w.heap.size vas (((BL ++ [1]) ++ (encN u.size ++ bytesO u)) ++ (encN val.size ++ bytesO val))) := Lib.hid hoas
        have HBs := Lib.hid ((HCs.out.trans (hbts.mono HCs.out.size)).trans ((Below.refl _ _).grown hgas (HCs.out.trans (hbts.mono HCs.out.size)).size (fun g e => (own_below HOcs.out hbts).lt g e |>.1)))
        obtain ⟨nns, hnns⟩ : ∃ q, q = (((BL ++ [1]) ++ (encN u.size ++ bytesO u)) ++ (encN val.size ++ bytesO val)).length := ⟨_, rfl⟩
        rw [← hnns] at hoas
        obtain ⟨aas, acs, rfl⟩ := own_slice hoas
        obtain ⟨nts, hnts⟩ : ∃ q, q = (encN val.size ++ bytesO val).length := ⟨_, rfl⟩
        rw [OwnBs, ← hnts] at hots
        obtain ⟨ats, cts, rfl⟩ := own_slice hots
        clear hots hbts hoas hgas hnns hnts hrcs d1s d2s Htxs
        have HWe : Hid (OwnBs was w.heap.size (.slice aas nns acs) (PL ++ (l.take (k + 1)).flatMap opB)) := Lib.hid (by
          have := HOs.out
          rw [HBL.out] at this
          rw [Htk.out, opB_put]
          simpa [List.append_assoc] using this)
        go_wp2_with (at_builtin; first | (refine wpList_val rfl _ _ (run_append_op (.tmp 43) (.tmp 50) 95 95 rfl rfl rfl hras) ?_) | (refine wpList_val rfl _ _ (run_append_op (.tmp 43) (.tmp 50) 95 95 rfl (by simp) (by simp) hras) ?_))
        go_roundw
        case rel => exact ⟨k + 1, by omega, by go_num, ⟨_, _, _, rfl, HWe.out⟩, HBs.out⟩
        case measure => simp [intOf]; omega
      · obtain ⟨a1, n1, c1, w1, hr1, ho1, hb1⟩ := push_bs wo w.heap.size _ BL 2 HOo.out (by omega) Hb.out.size
        have Ho1 := Lib.hid ho1
        have Hb1 := Lib.hid (Hb.out.trans hb1)
        obtain ⟨d0, -, -⟩ := Hcw.out wo Hb.out
        try dsimp only at d0
        clear ho1 hb1
        obtain ⟨-, d1t, d2t⟩ := Hcw.out w1 Hb1.out
        try dsimp only at d1t d2t
        obtain ⟨cct, wct, hrct, hbst, hblt, -, -⟩ := conv_str u w1 (by omega)
        have HCt := Lib.hid (Hb1.out.trans (hblt.mono Hb1.out.size))
        have HOct := Lib.hid (own_below Ho1.out hblt)
        have htxt := rtext_any _ (bytesO u) wct hbst (by rw [bytesO_len]; omega)
        rw [bytesO_len] at htxt
        have Htxt := Lib.hid htxt
        clear hbst hblt htxt
        go_wp2_with (at_builtin; first | (refine wpList_val rfl _ _ (run_append_op (.tmp 19) (.tmp 26) 95 95 rfl rfl rfl hr1) ?_) | (refine wpList_val rfl _ _ (run_append_op (.tmp 19) (.tmp 26) 95 95 rfl (by simp) (by simp) hr1) ?_))
        refine Htxt.out.mono ?_
        rintro e wt ⟨vt, rfl, hott, hbtt⟩
        obtain ⟨vat, wat, hrat, hoat, hgat, -⟩ := app_bs wt w.heap.size _ vt (BL ++ [2]) (encN u.size ++ bytesO u) (own_below HOct.out hbtt) (isSl_own byteC_len hott) (by have := encN_le u.size; have := encN_le val.size; simp only [List.length_append, bytesO_len, List.length_cons, List.length_nil]; omega) (HCt.out.trans (hbtt.mono HCt.out.size)).size
        have HOt : Hid (OwnBs wat w.heap.size vat ((BL ++ [2]) ++ (encN u.size ++ bytesO u))) := Lib.hid hoat
        have HBt := Lib.hid ((HCt.out.trans (hbtt.mono HCt.out.size)).trans ((Below.refl _ _).grown hgat (HCt.out.trans (hbtt.mono HCt.out.size)).size (fun g e => (own_below HOct.out hbtt).lt g e |>.1)))
        obtain ⟨nnt, hnnt⟩ : ∃ q, q = ((BL ++ [2]) ++ (encN u.size ++ bytesO u)).length := ⟨_, rfl⟩
        rw [← hnnt] at hoat
        obtain ⟨aat, act, rfl⟩ := own_slice hoat
        obtain ⟨ntt, hntt⟩ : ∃ q, q = (encN u.size ++ bytesO u).length := ⟨_, rfl⟩
        rw [OwnBs, ← hntt] at hott
        obtain ⟨att, ctt, rfl⟩ := own_slice hott
        clear hott hbtt hoat hgat hnnt hntt hrct d1t d2t Htxt
        obtain ⟨d0', -, -⟩ := Hcw.out wat HBt.out
        try dsimp only at d0'
        have HWe : Hid (OwnBs wat w.heap.size (.slice aat nnt act) (PL ++ (l.take (k + 1)).flatMap opB)) := Lib.hid (by
          have := HOt.out
          rw [HBL.out] at this
          rw [Htk.out, opB_del]
          simpa [List.append_assoc] using this)
        go_wp2_with (at_builtin; first | (refine wpList_val rfl _ _ (run_append_op (.tmp 28) (.tmp 35) 95 95 rfl rfl rfl hrat) ?_) | (refine wpList_val rfl _ _ (run_append_op (.tmp 28) (.tmp 35) 95 95 rfl (by simp) (by simp) hrat) ?_))
        go_roundw
        case rel => exact ⟨k + 1, by omega, by go_num, ⟨_, _, _, rfl, HWe.out⟩, HBt.out⟩
        case measure => simp [intOf]; omega
    · obtain rfl : n = k := by omega
      have hfin : OwnBs wo w.heap.size (.slice oa on oc) (batchB sn l) := by
        have := Hown.out
        rw [HPL.out, Hn.out, List.take_length] at this
        exact this
      have Hfin := Lib.hid hfin
      clear hfin
      go_wp2_with fail
      go_ret
      exact ⟨_, rfl, Hfin.out, Hb.out⟩
end Go.Proofs.Ytbnodgoccmhjkaa.Tithe
