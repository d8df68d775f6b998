/- THE LAW LevelsKeeps: walked. -/
import Derived.Test.YtjefpogeknbelaaLevKeepsC
namespace Go.Proofs.Ytjefpogeknbelaa.Tithe
open Go.RowKit Go.Sort Go.Shelf
set_option linter.unusedVariables false
set_option linter.unusedSimpArgs false
set_option maxRecDepth 100000
attribute [local go_sem] Oper.semAt_some
set_option maxHeartbeats 6400000 in
theorem levelsKeeps_walk (v : Value) (l : List Ed) (q : Ed) (w : World) (h : IsEd w v l) (hq : EdIn w q) :
    Calls Try.prog 4 #[v, .agg #[q.va, q.vd]] w fun e w' => e = .returned (.bool true) ∧ Below w.heap.size w w' := by
  have HA := Lib.hid ((Below.refl w.heap.size w).alloc (Nat.le_refl _) (.cells #[q.va, q.vd] 43))
  have HP := Lib.hid (blk_of_alloc w (.cells #[q.va, q.vd] 43))
  have Hs := Lib.hid (small_any v l _ (isEd_bel h HA.out))
  have Hq := Lib.hid (edIn_bel hq HA.out)
  have Hi := Lib.hid (isEd_bel h HA.out)
  have HQ := Lib.hid (fun (X : World) (hX : EdIn X q) => small_ed X q hX)
  obtain ⟨va, vd, ps, zs⟩ := q
  dsimp only at HA HP Hs Hq Hi HQ ⊢
  have hq1 : IsPl w va ps := hq.1
  have hq2 : IsDz w vd zs := hq.2
  obtain ⟨pa, pc, rfl, -, -, -⟩ := id hq1.1
  obtain ⟨za, zc, rfl, -, -, -⟩ := id hq2
  clear hq1 hq2
  obtain ⟨sb, hsb⟩ : ∃ sb, smallB [⟨.slice pa ps.length pc, .slice za zs.length zc, ps, zs⟩] = sb := ⟨_, rfl⟩
  rw [hsb] at HQ
  have Hsb := Lib.hid hsb
  clear hsb
  obtain ⟨np, hnp⟩ : ∃ np, np = ps.length := ⟨_, rfl⟩
  obtain ⟨nz, hnz⟩ : ∃ nz, nz = zs.length := ⟨_, rfl⟩
  rw [← hnp, ← hnz] at HA HP Hs Hq Hi HQ ⊢
  rw [← hnp, ← hnz] at Hsb
  obtain ⟨pb, hpb⟩ : ∃ pb, pb = w.heap.size := ⟨_, rfl⟩
  have Hpb := Lib.hid hpb
  rw [← hpb] at HP
  clear h hq hpb hnp hnz
  cases hsm : smallB l with
  | false =>
    rw [hsm] at Hs
    clear hsm
    go_enter Try.func4, Try.ntmps4
    go_wp2_with fail
    refine Hs.out.mono ?_
    rintro e w1 ⟨rfl, hb⟩
    have Hb := Lib.hid (HA.out.trans (hb.mono HA.out.size))
    clear hb
    go_wp2_with fail
    refine (awake15_any _).mono ?_
    rintro e wz ⟨rfl, hbz⟩
    have Hbz := Lib.hid (Hb.out.trans (hbz.mono Hb.out.size))
    clear hbz
    go_wp2
    go_ret
    exact ⟨rfl, Hbz.out⟩
  | true =>
    rw [hsm] at Hs
    have Hsm := Lib.hid hsm
    clear hsm
    go_enter Try.func4, Try.ntmps4
    go_wp2_with fail
    rw [← Hpb.out]
    refine Hs.out.mono ?_
    rintro e w1 ⟨rfl, hb⟩
    have Hb1 := Lib.hid (HA.out.trans (hb.mono HA.out.size))
    have HP1 := Lib.hid (blk_bels hb HP.out)
    have Hq1 := Lib.hid (edIn_bel Hq.out hb)
    have Hi1 := Lib.hid (isEd_bel Hi.out hb)
    have f0 := (cell_of_blk HP1.out 0).trans (show _ = some (.slice pa np pc) from rfl)
    have f1 := (cell_of_blk HP1.out 1).trans (show _ = some (.slice za nz zc) from rfl)
    have Ho := Lib.hid (HQ.out w1 Hq1.out)
    have HB1 : Hid (Below w1.heap.size w1 (w1.alloc (.cells #[.slice pa np pc, .slice za nz zc] 43))) := Lib.hid ((Below.refl _ _).alloc (Nat.le_refl _) _)
    clear hb Hs HA HP Hq Hi HQ
    cases sb with
    | false =>
      go_wp2_with fail
      refine Ho.out.mono ?_
      rintro e w2 ⟨rfl, hb⟩
      have Hb2 := Lib.hid (Hb1.out.trans ((HB1.out.trans (hb.mono HB1.out.size)).mono Hb1.out.size))
      clear hb
      go_wp2_with fail
      refine (awake15_any _).mono ?_
      rintro e wz ⟨rfl, hbz⟩
      have Hbz := Lib.hid (Hb2.out.trans (hbz.mono Hb2.out.size))
      clear hbz
      go_wp2
      go_ret
      exact ⟨rfl, Hbz.out⟩
    | true =>
      go_wp2_with fail
      refine Ho.out.mono ?_
      rintro e w2 ⟨rfl, hb⟩
      have hb12 := HB1.out.trans (hb.mono HB1.out.size)
      have Hb2 := Lib.hid (Hb1.out.trans (hb12.mono Hb1.out.size))
      have HP2 := Lib.hid (blk_bels hb12 HP1.out)
      have Hq2 := Lib.hid (edIn_bel Hq1.out hb12)
      have Hi2 := Lib.hid (isEd_bel Hi1.out hb12)
      clear hb hb12 HB1 Ho HP1 Hq1 Hi1 f0 f1 Hb1
      go_wp2_with fail
      refine (play_any v l w2 Hi2.out Hsm.out).mono ?_
      rintro e w3 qq
      obtain ⟨U, X, xb, rfl, hxb, hU, hX, heU, heX, hsx, hb3⟩ := qq.out
      have Hb3 := Lib.hid (Hb2.out.trans (hb3.mono Hb2.out.size))
      have HP3 := Lib.hid (blk_bels hb3 HP2.out)
      have Hq3 := Lib.hid (edIn_bel Hq2.out hb3)
      have hc : U.cells = #[U.v 0, U.v 1, U.v 2, U.v 3] := rfl
      obtain ⟨va0, vn0, vc0, va1, vn1, vc1, va2, vn2, vc2, va3, vn3, vc3, hc⟩ := isVn_agg hU
      have HU := Lib.hid hU
      have HX := Lib.hid hX
      have Hxb := Lib.hid hxb
      have HeU := Lib.hid heU
      have HeX := Lib.hid heX
      have HPk := Lib.hid (playP_ok Hsm.out l.length (Nat.le_refl _))
      have h40 := (smallB_ed Hsm.out).2
      have HLs := Lib.hid (HPk.out.1.mono (show 10 * l.length ≤ 2000 by omega))
      have Hc := Lib.hid hc
      rw [hc]
      clear hxb hU hX heU heX hsx hb3 hc h40 qq Hb2 HP2 Hq2 Hi2
      have HB := Lib.hid ((Below.refl w3.heap.size w3).alloc (Nat.le_refl _) (.cells #[.slice va0 vn0 vc0, .slice va1 vn1 vc1, .slice va2 vn2 vc2, .slice va3 vn3 vc3] 48))
      have HV := Lib.hid (blk_of_alloc w3 (.cells #[.slice va0 vn0 vc0, .slice va1 vn1 vc1, .slice va2 vn2 vc2, .slice va3 vn3 vc3] 48))
      obtain ⟨vb, hvb⟩ : ∃ vb, vb = w3.heap.size := ⟨_, rfl⟩
      have Hvb := Lib.hid hvb
      rw [← hvb] at HV
      have HP4 := Lib.hid (blk_bels HB.out HP3.out)
      have Hq4 := Lib.hid (edIn_bel Hq3.out HB.out)
      have HU4 := Lib.hid (HU.out.below HB.out)
      have HX4 := Lib.hid (HX.out.below HB.out)
      have Hxb4 := Lib.hid (blk_bels HB.out Hxb.out)
      have Hb4 := Lib.hid (Hb3.out.trans (HB.out.mono Hb3.out.size))
      clear hvb HB HP3 Hq3 HU HX Hxb Hb3
      go_upto_region 6 with fail
      rw [← Hvb.out]
      generalize w3.alloc (.cells #[.slice va0 vn0 vc0, .slice va1 vn1 vc1, .slice va2 vn2 vc2, .slice va3 vn3 vc3] 48) = W3 at *
      clear Hvb
      have f0 := (cell_of_blk HP4.out 0).trans (show _ = some (.slice pa np pc) from rfl)
      have f1 := (cell_of_blk HP4.out 1).trans (show _ = some (.slice za nz zc) from rfl)
      have cv0 := (cell_of_blk HV.out 0).trans (show _ = some (.slice va0 vn0 vc0) from rfl)
      have cv1 := (cell_of_blk HV.out 1).trans (show _ = some (.slice va1 vn1 vc1) from rfl)
      have cv2 := (cell_of_blk HV.out 2).trans (show _ = some (.slice va2 vn2 vc2) from rfl)
      have cv3 := (cell_of_blk HV.out 3).trans (show _ = some (.slice va3 vn3 vc3) from rfl)
      have Hes := Lib.hid (edSmall_ps ((smallB_ed Hsb.out).1 _ (List.mem_singleton.2 rfl)))
      have Hv := Lib.hid (vapply_own HU4.out HeU.out HLs.out HPk.out.2 Hq4.out.1 Hq4.out.2 (show ps.length ≤ 1000 from Nat.le_trans Hes.out.1 (by omega)) Hes.out.2.2)
      rw [Hc.out] at Hv
      go_wp2_with fail
      refine Hv.out.mono ?_
      rintro e w5 ⟨Y, rz, rfl, hYo, hb5⟩
      obtain ⟨wa0, wn0, wc0, wa1, wn1, wc1, wa2, wn2, wc2, wa3, wn3, wc3, hcy⟩ := isVn_agg hYo.isVn
      rw [hcy]
      have HB := Lib.hid ((Below.refl w5.heap.size w5).alloc (Nat.le_refl _) (.cells Y.cells 48))
      have HW := Lib.hid (blk_of_alloc w5 (.cells Y.cells 48))
      obtain ⟨wb, hwb⟩ : ∃ wb, wb = w5.heap.size := ⟨_, rfl⟩
      have Hwb := Lib.hid hwb
      rw [← hwb] at HW
      have HYo := Lib.hid (hYo.below HB.out)
      have Hwlt : Hid (wb < (w5.alloc (.cells Y.cells 48)).heap.size) := Lib.hid (by rw [hwb]; simp)
      have Hb5 := Lib.hid (hb5.trans (HB.out.mono hb5.size))
      have Hws := Lib.hid (blk_lt HW.out)
      rw [hcy] at HW HYo Hb5 Hwlt Hws
      have Hcy := Lib.hid hcy
      clear hb5 hYo hcy hwb HB Hv f0 f1 cv0 cv1 cv2 cv3 Hq4 HP4 Hes Hsb
      go_upto_region 7 with fail
      rw [← Hwb.out]
      generalize w5.alloc (.cells #[.slice wa0 wn0 wc0, .slice wa1 wn1 wc1, .slice wa2 wn2 wc2, .slice wa3 wn3 wc3] 48) = W5 at *
      clear Hwb
      have Hwv : Hid (∀ n, n < 4 → W5.cell? ⟨wb, n, none⟩ = some (Y.v n)) := Lib.hid (fun n hn => (cell_of_blk HW.out n).trans (by rw [← Hcy.out]; exact vn_cell Y hn))
      have hss : W3.heap.size ≤ W5.heap.size := Hb5.out.size
      go_wp2_with fail
      go_loopw [41] (fun nv wr => ∃ n : Nat, n ≤ 4 ∧ nv = .int .i64 n ∧ IStep W3.heap.size W5 wr) (fun nv _ => 4 - (intOf nv).toNat)
      case atStart => exact ⟨0, Nat.zero_le _, rfl, IStep.refl _ _⟩
      case round =>
        obtain ⟨wo, rfl⟩ : ∃ wo : World, wo = wr := ⟨_, rfl⟩
        obtain ⟨n, hn, rfl, hst⟩ := hrel
        have Hst := Lib.hid hst
        clear hst
        by_cases hn4 : n < 4
        · have hni : (n : Int) < 4 := by omega
          have hown := HYo.out.own n hn4
          obtain ⟨sa, sc, hsv⟩ := own_slice hown.1
          have hwv := Hwv.out n hn4
          rw [hsv] at hwv hown
          have hwo := Hst.out.slice hwv
          obtain ⟨sn, hsn⟩ : ∃ sn, sn = (Y.l n).length := ⟨_, rfl⟩
          rw [← hsn] at hwv hown hwo
          have Hwv1 := Lib.hid hwv
          have Hown := Lib.hid hown
          have hsm : sn ≤ 9223372036854775807 := by have h1 := hown.isMr.1.at.2.1; have h2 := hown.isMr.1.at.2.2.1; omega
          clear hwv hown hsv hsn
          go_wp2_with fail
          clear hwo
          go_loopw [49] (fun iv wr => ∃ i : Nat, i ≤ sn ∧ iv = .int .i64 i ∧ IStep W3.heap.size W5 wr) (fun iv _ => sn - (intOf iv).toNat)
          case atStart => exact ⟨0, Nat.zero_le _, rfl, Hst.out⟩
          case round =>
            obtain ⟨wi, rfl⟩ : ∃ wi : World, wi = wr := ⟨_, rfl⟩
            obtain ⟨i, hi, rfl, hst2⟩ := hrel
            have Hst2 := Lib.hid hst2
            clear hst2
            by_cases his : i < sn
            · obtain ⟨g, rfl, hgb, hgl, hgf, z, n2, ka, kb, ra, rn, rc, ⟨d0, -, -, -, -, -, -, -, d8⟩, hrn, hrr⟩ := row_cell Hown.out his
              obtain ⟨z1, e0⟩ := Hst2.out.int _ _ d0
              have e9 := Hst2.out.slice Hwv1.out
              have e10 : wi.frozen? ⟨g, i * 9, none⟩ = false := (Hst2.out.frz ⟨g, i * 9, none⟩ hgl).trans (hgf _)
              have Hst3 := Lib.hid (Hst2.out.trans (IStep.set 99 e0 hgb))
              have D8 := Lib.hid d8
              have Hrr := Lib.hid hrr
              clear d0 d8 hrr hgf
              go_upto_region 14 with fail
              generalize wi.setCell ⟨g, i * 9, none⟩ (.int .i64 99) = wj at *
              clear e0 e9 e10
              have e8 := Hst3.out.slice D8.out
              have e9 := Hst3.out.slice Hwv1.out
              go_wp2_with fail
              clear e8 e9
              go_loopw [68] (fun jv wr => ∃ j : Nat, j ≤ rn ∧ jv = .int .i64 j ∧ IStep W3.heap.size W5 wr) (fun jv _ => rn - (intOf jv).toNat)
              case atStart => exact ⟨0, Nat.zero_le _, rfl, Hst3.out⟩
              case round =>
                obtain ⟨wk, rfl⟩ : ∃ wk : World, wk = wr := ⟨_, rfl⟩
                obtain ⟨j, hj, rfl, hst4⟩ := hrel
                have Hst4 := Lib.hid hst4
                clear hst4
                by_cases hjr : j < rn
                · obtain ⟨q, rfl, hqb, hql, ⟨y, hy⟩, hqf⟩ := Hrr.out j hjr
                  obtain ⟨y1, e0⟩ := Hst4.out.int _ _ hy
                  have e8 := Hst4.out.slice D8.out
                  have e9 := Hst4.out.slice Hwv1.out
                  have e10 : wk.frozen? ⟨q, j * 2 + 1, none⟩ = false := (Hst4.out.frz ⟨q, j * 2 + 1, none⟩ hql).trans (hqf _)
                  have Hst5 := Lib.hid (Hst4.out.trans (IStep.set 0 e0 hqb))
                  clear hy hqf
                  go_wp2_with fail
                  go_roundw
                  case rel => exact ⟨j + 1, by omega, by go_num, Hst5.out⟩
                  case measure => simp [intOf]; omega
                · obtain rfl : j = rn := by omega
                  go_wp2_with fail
                  go_roundw
                  case rel => exact ⟨i + 1, by omega, by go_num, Hst4.out⟩
                  case measure => simp [intOf]; omega
            · obtain rfl : i = sn := by omega
              go_wp2_with fail
              go_roundw
              case rel => exact ⟨n + 1, by omega, by go_num, Hst2.out⟩
              case measure => simp [intOf]; omega
        · obtain rfl : n = 4 := by omega
          have hb35 := Hb5.out.trans Hst.out.bel
          have HV6 := Lib.hid (blk_bels hb35 HV.out)
          have HT := Lib.hid (lvS_tabs HPk.out.1 HeU.out)
          have h40 := (smallB_ed Hsm.out).2
          have Ht := Lib.hid (tables_any U wo (HU4.out.below hb35) (by have := HT.out.1; omega) (fun p hp => by have := (HT.out.2 p hp).1; omega))
          rw [Hc.out] at Ht
          have Hb36 := Lib.hid hb35
          clear hb35 h40 HT HYo HW Hwv Hst Hb5 Hws Hwlt
          have cv0 := (cell_of_blk HV6.out 0).trans (show _ = some (.slice va0 vn0 vc0) from rfl)
          have cv1 := (cell_of_blk HV6.out 1).trans (show _ = some (.slice va1 vn1 vc1) from rfl)
          have cv2 := (cell_of_blk HV6.out 2).trans (show _ = some (.slice va2 vn2 vc2) from rfl)
          have cv3 := (cell_of_blk HV6.out 3).trans (show _ = some (.slice va3 vn3 vc3) from rfl)
          go_wp2_with fail
          refine Ht.out.mono ?_
          rintro e w7 ⟨x, rws, rfl, hown, -, hb7⟩
          obtain ⟨ya, yc, rfl⟩ := own_slice hown.1
          have Hb7 := Lib.hid (Hb36.out.trans (hb7.mono Hb36.out.size))
          have Hsz := Lib.hid Hb36.out.size
          have Hown := Lib.hid hown
          obtain ⟨m, hm⟩ : ∃ m, m = rws.length := ⟨_, rfl⟩
          rw [← hm] at Hown ⊢
          have hsm : m ≤ 9223372036854775807 := by have h1 := hown.isMr.1.at.2.1; have h2 := hown.isMr.1.at.2.2.1; omega
          clear hown hb7 hm Ht cv0 cv1 cv2 cv3 Hb36
          go_wp2_with fail
          go_loopw [88] (fun iv wr => ∃ i : Nat, i ≤ m ∧ iv = .int .i64 i ∧ IStep wo.heap.size w7 wr) (fun iv _ => m - (intOf iv).toNat)
          case atStart => exact ⟨0, Nat.zero_le _, rfl, IStep.refl _ _⟩
          case round =>
            obtain ⟨wi, rfl⟩ : ∃ wi : World, wi = wr := ⟨_, rfl⟩
            obtain ⟨i, hi, rfl, hst2⟩ := hrel
            have Hst2 := Lib.hid hst2
            clear hst2
            by_cases his : i < m
            · obtain ⟨g, rfl, hgb, hgl, hgf, z0, n20, ka0, kb0, ra, rn, rc, ⟨d0, d1, d2, d3, d4, d5, d6, d7, d8⟩, hrn, hrr⟩ := row_cell Hown.out his
              obtain ⟨z, e0⟩ := Hst2.out.int _ _ d0
              obtain ⟨n2, e1⟩ := Hst2.out.int _ _ d1
              have e2 := Hst2.out.str d2
              obtain ⟨sq1, e3⟩ := Hst2.out.int _ _ d3
              obtain ⟨ak, e4⟩ := Hst2.out.int _ _ d4
              have e5 := Hst2.out.str d5
              obtain ⟨bs, e6⟩ := Hst2.out.int _ _ d6
              obtain ⟨bk, e7⟩ := Hst2.out.int _ _ d7
              have e8 := Hst2.out.slice d8
              have Hrr := Lib.hid hrr
              have hal := IStep.of_below (base := wo.heap.size) (W := wi) (W' := wi.alloc (.cells #[.int .i64 z, .int .i64 n2, .string ka0.u, .int .i64 sq1, .int .i64 ak, .string kb0.u, .int .i64 bs, .int .i64 bk, .slice ra rn rc] 26)) ((Below.refl _ _).alloc (Nat.le_refl _) _) (Nat.le_trans (Nat.le_of_lt (Nat.lt_of_le_of_lt hgb hgl)) Hst2.out.bel.size)
              have Hst3 := Lib.hid (Hst2.out.trans hal)
              have HMi := Lib.hid (blk_of_alloc wi (.cells #[.int .i64 z, .int .i64 n2, .string ka0.u, .int .i64 sq1, .int .i64 ak, .string kb0.u, .int .i64 bs, .int .i64 bk, .slice ra rn rc] 26))
              obtain ⟨mb, hmb⟩ : ∃ mb, mb = wi.heap.size := ⟨_, rfl⟩
              have Hmb := Lib.hid hmb
              rw [← hmb] at HMi
              clear d0 d1 d2 d3 d4 d5 d6 d7 d8 hrr hgf hal hmb
              go_upto_region 24 with fail
              rw [← Hmb.out]
              generalize wi.alloc (.cells #[.int .i64 z, .int .i64 n2, .string ka0.u, .int .i64 sq1, .int .i64 ak, .string kb0.u, .int .i64 bs, .int .i64 bk, .slice ra rn rc] 26) = wj at *
              clear e0 e1 e2 e3 e4 e5 e6 e7 e8
              have HM8 := Lib.hid ((cell_of_blk HMi.out 8).trans (show _ = some (.slice ra rn rc) from rfl))
              have m8 := HM8.out
              go_wp2_with fail
              clear m8
              go_loopw [95] (fun jv wr => ∃ j : Nat, j ≤ rn ∧ jv = .int .i64 j ∧ IStep wo.heap.size wj wr) (fun jv _ => rn - (intOf jv).toNat)
              case atStart => exact ⟨0, Nat.zero_le _, rfl, IStep.refl _ _⟩
              case round =>
                obtain ⟨wk, rfl⟩ : ∃ wk : World, wk = wr := ⟨_, rfl⟩
                obtain ⟨j, hj, rfl, hst4⟩ := hrel
                have Hst4 := Lib.hid hst4
                clear hst4
                by_cases hjr : j < rn
                · obtain ⟨q, rfl, hqb, hql, ⟨y, hy⟩, hqf⟩ := Hrr.out j hjr
                  have hs7 := Hst3.out.trans Hst4.out
                  obtain ⟨y1, e0⟩ := hs7.int _ _ hy
                  have e8 := Hst4.out.slice HM8.out
                  have e10 : wk.frozen? ⟨q, j * 2 + 1, none⟩ = false := (hs7.frz ⟨q, j * 2 + 1, none⟩ hql).trans (hqf _)
                  have Hst5 := Lib.hid (Hst4.out.trans (IStep.set 0 e0 hqb))
                  clear hy hqf hs7
                  go_wp2_with fail
                  go_roundw
                  case rel => exact ⟨j + 1, by omega, by go_num, Hst5.out⟩
                  case measure => simp [intOf]; omega
                · obtain rfl : j = rn := by omega
                  have Hst6 := Lib.hid (Hst3.out.trans Hst4.out)
                  go_wp2_with fail
                  go_roundw
                  case rel => exact ⟨i + 1, by omega, by go_num, Hst6.out⟩
                  case measure => simp [intOf]; omega
            · obtain rfl : i = m := by omega
              have Hb9 := Lib.hid (Hb7.out.trans (Hst2.out.bel.mono Hsz.out))
              clear Hst2 Hown Hb7
              go_wp2_with fail
              go_loopw [105] (fun nv wr => ∃ n : Nat, n ≤ 4 ∧ nv = .int .i64 n ∧ Below W3.heap.size W3 wr) (fun nv _ => 4 - (intOf nv).toNat)
              case atStart => exact ⟨0, Nat.zero_le _, rfl, Hb9.out⟩
              case round =>
                obtain ⟨wz, rfl⟩ : ∃ wz : World, wz = wr := ⟨_, rfl⟩
                obtain ⟨n, hn, rfl, hbz⟩ := hrel
                have Hbz := Lib.hid hbz
                by_cases hn4 : n < 4
                · have hni : (n : Int) < 4 := by omega
                  have iu := HU4.out.below hbz
                  have ix := HX4.out.below hbz
                  obtain ⟨sa, sc, hsu⟩ := isMr_slice (iu n hn4)
                  obtain ⟨ta, tc, hsx⟩ := isMr_slice (ix n hn4)
                  have hcu : wz.cell? ⟨vb, n, none⟩ = some (.slice sa (U.l n).length sc) := (cell_of_blk (blk_bels hbz HV.out) n).trans (by rw [← Hc.out, ← hsu]; exact vn_cell U hn4)
                  have hcx : wz.cell? ⟨xb, n, none⟩ = some (.slice ta (X.l n).length tc) := (cell_of_blk (blk_bels hbz Hxb4.out) n).trans (by rw [← hsx]; exact vn_cell X hn4)
                  have Hsame := Lib.hid (fun (A : World) (hA : Below wz.heap.size wz A) => same_yes (U.v n) (X.v n) (U.l n) (X.l n) A ((iu n hn4).below hA) ((ix n hn4).below hA) (lvE_lv HeU.out HeX.out hn4))
                  rw [hsu, hsx] at Hsame
                  clear hsu hsx iu ix hbz
                  go_wp2_with fail
                  refine wp_region_held_drew (S := fun V' => Hid (Below wz.heap.size wz V')) (by kernel_rfl) (Lib.hid ((Below.refl _ _).drew)) (fun hS0 => ?_)
                  refine wpAnyH_take (i := 0) (oi := { dst := some 108, op := Op.move (Operand.tmp 16), type := 3, pos := "law.go:170", after := #[], guard := none }) (v := ?_) rfl (by kernel_rfl) (by kernel_rfl) (by kernel_rfl) (fun _ _ _ h => h) (Or.inl ⟨by rfl, ?hy13⟩) hS0 ?_
                  case hy13 => (intro V hSw; (try dsimp only at hSw); clear hSw; go_simp; try with_reducible rfl)
                  try simp only [Act.put, List.setIfInBounds_toArray, List.set_cons_zero, List.set_cons_succ]
                  refine wpAnyH_take (i := 1) (oi := { dst := some 109, op := Op.fieldAddr 48 (Operand.tmp 5) 0, type := 0, pos := "law.go:170", after := #[], guard := none }) (v := ?_) rfl (by kernel_rfl) (by kernel_rfl) (by kernel_rfl) (fun _ _ _ h => h) (Or.inl ⟨by rfl, ?hy14⟩) hS0 ?_
                  case hy14 => (intro V hSw; (try dsimp only at hSw); clear hSw; go_simp; try with_reducible rfl)
                  try simp only [Act.put, List.setIfInBounds_toArray, List.set_cons_zero, List.set_cons_succ]
                  refine wpAnyH_take (i := 2) (oi := { dst := some 110, op := Op.indexAddr 46 (Operand.tmp 109) (Operand.tmp 108), type := 0, pos := "law.go:170", after := #[{ on := 1, ground := Ground.data }, { on := 0, ground := Ground.data }], guard := none }) (v := ?_) rfl (by kernel_rfl) (by kernel_rfl) (by kernel_rfl) (fun _ _ _ h => h) (Or.inl ⟨by rfl, ?hy15⟩) hS0 ?_
                  case hy15 => (intro V hSw; (try dsimp only at hSw); clear hSw; go_simp; try with_reducible rfl)
                  try simp only [Act.put, List.setIfInBounds_toArray, List.set_cons_zero, List.set_cons_succ]
                  refine wpAnyH_take (i := 3) (oi := { dst := some 111, op := Op.load 45 (Operand.tmp 110), type := 45, pos := "law.go:170", after := #[{ on := 2, ground := Ground.data }], guard := none }) (v := ?_) rfl (by kernel_rfl) (by kernel_rfl) (by kernel_rfl) (fun _ _ _ h => h) (Or.inl ⟨by rfl, ?hy16⟩) hS0 ?_
                  case hy16 => (intro V hSw; (try dsimp only at hSw); have q0 := grow_cell hSw.out (block_lt_of_cell hcu) hcu; have q1 := grow_cell hSw.out (block_lt_of_cell hcx) hcx; clear hSw; go_simp; try with_reducible rfl)
                  try simp only [Act.put, List.setIfInBounds_toArray, List.set_cons_zero, List.set_cons_succ]
                  refine wpAnyH_take (i := 4) (oi := { dst := some 112, op := Op.move (Operand.tmp 6), type := 49, pos := "law.go:170", after := #[], guard := none }) (v := ?_) rfl (by kernel_rfl) (by kernel_rfl) (by kernel_rfl) (fun _ _ _ h => h) (Or.inl ⟨by rfl, ?hy17⟩) hS0 ?_
                  case hy17 => (intro V hSw; (try dsimp only at hSw); clear hSw; go_simp; try with_reducible rfl)
                  try simp only [Act.put, List.setIfInBounds_toArray, List.set_cons_zero, List.set_cons_succ]
                  refine wpAnyH_take (i := 5) (oi := { dst := some 113, op := Op.move (Operand.tmp 16), type := 3, pos := "law.go:170", after := #[], guard := none }) (v := ?_) rfl (by kernel_rfl) (by kernel_rfl) (by kernel_rfl) (fun _ _ _ h => h) (Or.inl ⟨by rfl, ?hy18⟩) hS0 ?_
                  case hy18 => (intro V hSw; (try dsimp only at hSw); clear hSw; go_simp; try with_reducible rfl)
                  try simp only [Act.put, List.setIfInBounds_toArray, List.set_cons_zero, List.set_cons_succ]
                  refine wpAnyH_take (i := 6) (oi := { dst := some 114, op := Op.nilCheck (Operand.tmp 112), type := 0, pos := "law.go:170", after := #[{ on := 4, ground := Ground.data }], guard := none }) (v := ?_) rfl (by kernel_rfl) (by kernel_rfl) (by kernel_rfl) (fun _ _ _ h => h) (Or.inl ⟨by rfl, ?hy19⟩) hS0 ?_
                  case hy19 => (intro V hSw; (try dsimp only at hSw); clear hSw; go_simp; try with_reducible rfl)
                  try simp only [Act.put, List.setIfInBounds_toArray, List.set_cons_zero, List.set_cons_succ]
                  refine wpAnyH_take (i := 7) (oi := { dst := some 115, op := Op.fieldAddr 61 (Operand.tmp 114) 0, type := 0, pos := "law.go:170", after := #[{ on := 6, ground := Ground.data }], guard := none }) (v := ?_) rfl (by kernel_rfl) (by kernel_rfl) (by kernel_rfl) (fun _ _ _ h => h) (Or.inl ⟨by rfl, ?hy20⟩) hS0 ?_
                  case hy20 => (intro V hSw; (try dsimp only at hSw); clear hSw; go_simp; try with_reducible rfl)
                  try simp only [Act.put, List.setIfInBounds_toArray, List.set_cons_zero, List.set_cons_succ]
                  refine wpAnyH_take (i := 8) (oi := { dst := some 116, op := Op.indexAddr 59 (Operand.tmp 115) (Operand.tmp 113), type := 0, pos := "law.go:170", after := #[{ on := 7, ground := Ground.data }, { on := 5, ground := Ground.data }], guard := none }) (v := ?_) rfl (by kernel_rfl) (by kernel_rfl) (by kernel_rfl) (fun _ _ _ h => h) (Or.inl ⟨by rfl, ?hy21⟩) hS0 ?_
                  case hy21 => (intro V hSw; (try dsimp only at hSw); clear hSw; go_simp; try with_reducible rfl)
                  try simp only [Act.put, List.setIfInBounds_toArray, List.set_cons_zero, List.set_cons_succ]
                  refine wpAnyH_take (i := 9) (oi := { dst := some 117, op := Op.load 58 (Operand.tmp 116), type := 58, pos := "law.go:170", after := #[{ on := 8, ground := Ground.data }], guard := none }) (v := ?_) rfl (by kernel_rfl) (by kernel_rfl) (by kernel_rfl) (fun _ _ _ h => h) (Or.inl ⟨by rfl, ?hy22⟩) hS0 ?_
                  case hy22 => (intro V hSw; (try dsimp only at hSw); have q0 := grow_cell hSw.out (block_lt_of_cell hcu) hcu; have q1 := grow_cell hSw.out (block_lt_of_cell hcx) hcx; clear hSw; go_simp; try with_reducible rfl)
                  try simp only [Act.put, List.setIfInBounds_toArray, List.set_cons_zero, List.set_cons_succ]
                  refine wpAnyH_ready (rs := [10]) (by kernel_rfl) (by simp) (AllReadyH.cons rfl (fun K hK => ?_) AllReadyH.nil)
                  go_simp
                  refine (Hsame.out _ hS0.out).mono ?_
                  rintro e wv23 ⟨rfl, hv23⟩
                  have hS23 := Lib.hid (hS0.out.trans (hv23.mono hS0.out.size))
                  clear hv23
                  refine hK.out _ _ hS23 (fun _ => ?_)
                  clear hK K
                  try simp only [Act.put, List.setIfInBounds_toArray, List.set_cons_zero, List.set_cons_succ]
                  refine wpAnyH_take (i := 11) (oi := { dst := some 119, op := Op.unOp UnOp.not 4 (Operand.tmp 118), type := 4, pos := "law.go:170", after := #[{ on := 10, ground := Ground.data }], guard := none }) (v := ?_) rfl (by kernel_rfl) (by kernel_rfl) (by kernel_rfl) (fun _ _ _ h => h) (Or.inl ⟨by rfl, ?hy24⟩) hS23 ?_
                  case hy24 => (intro V hSw; (try dsimp only at hSw); clear hSw; go_simp; try with_reducible rfl)
                  try simp only [Act.put, List.setIfInBounds_toArray, List.set_cons_zero, List.set_cons_succ]
                  refine wpAnyH_done (by kernel_rfl) ?_ _
                  have Hb8 := Lib.hid (Hbz.out.trans (hS23.out.mono Hbz.out.size))
                  go_wp2_with fail
                  go_roundw
                  case rel => exact ⟨n + 1, by omega, by go_num, Hb8.out⟩
                  case measure => simp [intOf]; omega
                · obtain rfl : n = 4 := by omega
                  have Hbw := Lib.hid (Hb4.out.trans (Hbz.out.mono Hb4.out.size))
                  clear hbz
                  go_wp2_with fail
                  refine (awake15_any _).mono ?_
                  rintro e wz ⟨rfl, hbz⟩
                  have Hbz := Lib.hid (Hbw.out.trans (hbz.mono Hbw.out.size))
                  clear hbz
                  go_wp2
                  go_ret
                  exact ⟨rfl, Hbz.out⟩
end Go.Proofs.Ytjefpogeknbelaa.Tithe
