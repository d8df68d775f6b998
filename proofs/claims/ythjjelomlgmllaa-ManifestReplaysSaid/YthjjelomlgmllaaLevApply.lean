/- Version.Apply: walked. -/
import Derived.Test.YthjjelomlgmllaaLevAppI
import Derived.IntWalk
import Derived.Deep.RegionHeld3
namespace Go.Proofs.Ythjjelomlgmllaa.Tithe
open Go.RowKit Go.Sort Go.Shelf
set_option linter.unusedVariables false
set_option linter.unusedSimpArgs false
set_option maxRecDepth 100000
set_option maxHeartbeats 6400000 in
theorem vapply_any (V : Vn) (va vd : Value) (ps : List (Int × Mr)) (zs : List Int) (w : World) (h : IsVn w V) (hgood : verOk V.l = true) (hl : (tabs V.l 4).length ≤ 100000) (hrl : ∀ p ∈ tabs V.l 4, p.2.1.refs.length ≤ 1000000)
    (hps : IsPl w va ps) (hdz : IsDz w vd zs) (hpl : ps.length ≤ 100000) (hprl : ∀ p ∈ ps, p.2.1.refs.length ≤ 1000000) :
    Calls Try.prog 24 #[.agg V.cells, .agg #[va, vd]] w fun e w' => Hid (ApOut w V zs (psM ps) e w') := by
  obtain ⟨aa, ac, rfl, -, -, -⟩ := id hps.1
  obtain ⟨da, dc, rfl, -, -, -⟩ := id hdz
  obtain ⟨-, hac, ham, hax⟩ := hps.1.at
  obtain ⟨-, hdc, hdm, hdx⟩ := hdz.at
  have Hax := Lib.hid hax
  have Hdx := Lib.hid hdx
  have Hrr := Lib.hid hps.2
  have H := Lib.hid h
  have Hgood := Lib.hid hgood
  have Hrl := Lib.hid hrl
  have Hprl := Lib.hid hprl
  clear hps hdz hax hdx h hgood hrl hprl
  obtain ⟨nd, hnd⟩ : ∃ nd, nd = zs.length := ⟨_, rfl⟩
  rw [← hnd] at hdc
  rw [← hnd]
  have Hnd := Lib.hid hnd
  obtain ⟨na, hna⟩ : ∃ na, na = ps.length := ⟨_, rfl⟩
  rw [← hna] at hac hpl
  rw [← hna]
  have Hna := Lib.hid hna
  clear hnd hna
  unfold Vn.cells
  go_enter Try.func24, Try.ntmps24
  go_wp2_with fail
  have hv0 := blk_old (blk_old (blk_of_alloc w (.cells V.cells 61)) (.cells #[.slice aa na ac, .slice da nd dc] 25)) (.cells Vn.none.cells 61)
  have he0 : (((w.alloc (.cells V.cells 61)).alloc (.cells #[.slice aa na ac, .slice da nd dc] 25)).alloc (.cells Vn.none.cells 61)).heap[w.heap.size + 1]? = some (.cells #[.slice aa na ac, .slice da nd dc] 25 (0, 0)) := blk_old (blk_new (by simp only [World.size_alloc]) _) _
  have hz0 : (((w.alloc (.cells V.cells 61)).alloc (.cells #[.slice aa na ac, .slice da nd dc] 25)).alloc (.cells Vn.none.cells 61)).heap[w.heap.size + 1 + 1]? = some (.cells Vn.none.cells 61 (0, 0)) := blk_new (by simp only [World.size_alloc]) _
  have hb0 : Below w.heap.size w (((w.alloc (.cells V.cells 61)).alloc (.cells #[.slice aa na ac, .slice da nd dc] 25)).alloc (.cells Vn.none.cells 61)) := (((Below.refl _ _).alloc (Nat.le_refl _) _).alloc (by simp) _).alloc (by simp; omega) _
  have hs0 : (((w.alloc (.cells V.cells 61)).alloc (.cells #[.slice aa na ac, .slice da nd dc] 25)).alloc (.cells Vn.none.cells 61)).heap.size = w.heap.size + 1 + 1 + 1 := by simp only [World.size_alloc]
  have hcp := vcopied_any V w.heap.size _ hv0 (H.out.below hb0) hl Hrl.out
  unfold Vn.cells Vn.none at hv0 he0 hz0 hb0 hs0 hcp
  dsimp only at hv0 he0 hz0 hb0 hs0 hcp
  generalize ((w.alloc (.cells #[V.v 0, V.v 1, V.v 2, V.v 3] 61)).alloc (.cells #[.slice aa na ac, .slice da nd dc] 25)).alloc (.cells #[.slice none 0 0, .slice none 0 0, .slice none 0 0, .slice none 0 0] 61) = W0 at *
  refine hcp.mono ?_
  rintro e w1 ⟨U, rfl, hown, hUl, hb1⟩
  clear hcp
  obtain ⟨So, hSo⟩ : ∃ So, So = w1.heap.size := ⟨_, rfl⟩
  have hbS : W0.heap.size ≤ So := by rw [hSo]; exact hb1.size
  obtain ⟨a0, n0, c0, a1, n1, c1, a2, n2, c2, a3, n3, c3, e0, e1, e2, e3⟩ := vn_slices hown
  have hUc : U.cells = #[.slice a0 n0 c0, .slice a1 n1 c1, .slice a2 n2 c2, .slice a3 n3 c3] := by unfold Vn.cells; rw [e0, e1, e2, e3]
  have hQ : ApQ w So W0.heap.size #[.slice aa na ac, .slice da nd dc] U (w1.alloc (.cells U.cells 61)) := by
    have hbw : Below w.heap.size w w1 := hb0.trans (hb1.mono hb0.size)
    exact ⟨by rw [hSo]; exact blk_of_alloc _ _, blk_old (blk_bels hb1 he0) _, blk_old (blk_bels hb1 hz0) _, hown.below ((Below.refl _ _).alloc (Nat.le_refl _) _), hbw.alloc hbw.size _⟩
  have hAp : ApL U.l 100000 (-1) := by
    have hlen : ∀ n, n < 4 → (U.l n).length = (V.l n).length := fun n hn => by have := congrArg List.length (hUl n hn); rwa [List.length_map, List.length_map] at this
    refine ⟨fun n hn => ?_, fun n hn r hr => ?_, fun n h1 hn => ?_, .inl rfl⟩
    · rw [hlen n hn]; exact Nat.le_trans (tabs_len hn) hl
    · have hm : r.1 ∈ (V.l n).map (·.1) := by rw [← hUl n hn]; exact List.mem_map.2 ⟨r, hr, rfl⟩
      obtain ⟨r', hr', e⟩ := List.mem_map.1 hm
      rw [← e]; exact Hrl.out _ (mem_tabs V.l hn hr')
    · exact sortS_congr (hUl n hn).symm (verOk_sort Hgood.out h1 hn)
  have hD : DrI w So W0.heap.size #[.slice aa na ac, .slice da nd dc] V zs 0 (.int .i64 (-1)) (w1.alloc (.cells U.cells 61)) := ⟨U, -1, lvOf V.l, rfl, rfl, lvOf_congr hUl, hAp, hQ⟩
  rw [hUc] at hD
  rw [e0, e1, e2, e3]
  have HD := Lib.hid hD
  have Hs0 := Lib.hid hs0
  clear hD hAp hQ hUc e0 e1 e2 e3 hown hUl he0 hz0 hv0 hb0
  have ce0 : (w1.alloc (.cells #[.slice a0 n0 c0, .slice a1 n1 c1, .slice a2 n2 c2, .slice a3 n3 c3] 61)).cell? ⟨w.heap.size + 1, 1, none⟩ = some (.slice da nd dc) := by
    obtain ⟨_, _, _, -, -, -, -, hq⟩ := HD.out
    exact (cell_of_blk hq.ed 1).trans rfl
  clear hb1
  go_wp2_with fail
  rw [← hSo]
  generalize w1.alloc (.cells #[.slice a0 n0 c0, .slice a1 n1 c1, .slice a2 n2 c2, .slice a3 n3 c3] 61) = W1 at *
  have hs3 : w.heap.size + 3 ≤ W0.heap.size := by rw [Hs0.out]; omega
  clear hs0 hSo
  generalize W0.heap.size = base at *
  clear Hs0
  obtain ⟨cE, hcE⟩ : ∃ cE : Array Value, cE = #[.slice aa na ac, .slice da nd dc] := ⟨_, rfl⟩
  rw [← hcE] at HD
  go_loopw [21, 7] (fun tv av wr => ∃ k : Nat, k ≤ nd ∧ tv = .int .i64 k ∧ DrI w So base cE V zs k av wr) (fun tv _ _ => nd - (intOf tv).toNat)
  case atStart => exact ⟨0, Nat.zero_le _, rfl, HD.out⟩
  case round =>
    obtain ⟨wo, rfl⟩ : ∃ wo : World, wo = wr := ⟨_, rfl⟩
    obtain ⟨k, hk, rfl, U, at0, L, rfl, hds, hUL, hal, hq⟩ := hrel
    clear HD
    obtain ⟨a0, n0, c0, a1, n1, c1, a2, n2, c2, a3, n3, c3, e0, e1, e2, e3⟩ := vn_slices hq.own
    have hUc : U.cells = #[.slice a0 n0 c0, .slice a1 n1 c1, .slice a2 n2 c2, .slice a3 n3 c3] := by unfold Vn.cells; rw [e0, e1, e2, e3]
    have HUc := Lib.hid hUc
    have Hds := Lib.hid hds
    have HUL := Lib.hid hUL
    have Hal := Lib.hid hal
    have Hq := Lib.hid hq
    clear hds hUL hal hUc
    by_cases hkn : k < nd
    · obtain ⟨b, off, rfl, hcell⟩ := Hdx.out (by rw [← Hnd.out]; omega)
      obtain ⟨z, hzk⟩ : ∃ z, zs[k]? = some z := ⟨_, List.getElem?_eq_getElem (by rw [← Hnd.out]; exact hkn)⟩
      have q0 := hcell k z hzk 0 _ rfl
      rw [Nat.mul_one, Nat.add_zero] at q0
      have dz : wo.cell? ⟨b, off + k, none⟩ = some (.int .i64 z) := (hq.bel.cell (block_lt_of_cell q0)).trans q0
      have hb5 : Below wo.heap.size wo (wo.alloc (.cells #[.int .i64 z] 3)) := (Below.refl _ _).alloc (Nat.le_refl _) _
      have hq5 := hq.below hb5
      have hz5 : (wo.alloc (.cells #[.int .i64 z] 3)).cell? ⟨wo.heap.size, 0, none⟩ = some (.int .i64 z) := (cell_of_blk (blk_of_alloc _ _) 0).trans rfl
      have ho5 := hq5.out
      rw [HUc.out] at ho5
      have C0 := (cell_of_blk ho5 0).trans (show _ = some (.slice a0 n0 c0) from rfl)
      have C1 := (cell_of_blk ho5 1).trans (show _ = some (.slice a1 n1 c1) from rfl)
      have C2 := (cell_of_blk ho5 2).trans (show _ = some (.slice a2 n2 c2) from rfl)
      have C3 := (cell_of_blk ho5 3).trans (show _ = some (.slice a3 n3 c3) from rfl)
      have Hzk := Lib.hid hzk
      have Hb5 := Lib.hid hb5
      have Hq5 := Lib.hid hq5
      clear hcell q0 hzk hb5 hq5 ho5 hq
      rcases hasF_tabs U.l z with ⟨hp, ht⟩ | ⟨n, i, hn4, hp, ht, hfi⟩
      · have hcall := Lib.hid (has_no (w := wo.alloc (.cells #[.int .i64 z] 3)) Hq5.out.own.isVn ht)
        rw [HUc.out] at hcall
        have Hp := Lib.hid hp
        clear hp ht e0 e1 e2 e3
        go_wp2_with fail
        refine hcall.out.mono ?_
        rintro e w2 ⟨rfl, hb2⟩
        have hq2 := Hq5.out.below hb2
        have HF := Lib.hid (hq2.final hs3 (.slice none 0 0) (.slice none 0 0) (.slice none 0 0) (.slice none 0 0))
        have hzz := fun j => frozen_of_blk hq2.res j
        have hcz := fun j => cell_of_blk hq2.res j
        unfold Vn.cells Vn.none at hcz
        dsimp only at hcz
        clear hq2 hb2 hcall C0 C1 C2 C3 hz5
        go_wp2
        obtain ⟨f1, f2, -⟩ := HF.out
        refine bodyPost_ret (results_row_slot Try.results24 _ _ (w.heap.size + 1 + 1) 61 _ (0, 0) _ _ rfl rfl f1 Try.underlying61 rfl vnInfo) rfl ?_
        exact Lib.hid (apOut_no (apply_drop_no (k := k + 1) (by rw [dropsP_step Hds.out Hzk.out]; exact drop_none HUL.out Hp.out) (by rw [← Hnd.out]; exact hkn)) f2)
      · have hcall := Lib.hid (has_yes (w := wo.alloc (.cells #[.int .i64 z] 3)) Hq5.out.own.isVn ht)
        rw [HUc.out] at hcall
        obtain ⟨hil, -, -⟩ := List.findIdx?_eq_some_iff_getElem.1 hfi
        obtain ⟨g, cap, hxv⟩ := own_some (Hq5.out.own.own n hn4) (by omega)
        obtain ⟨N, hN⟩ : ∃ N, (U.l n).length = N + 1 := ⟨(U.l n).length - 1, by omega⟩
        rw [hN] at hil hxv
        have hNl : N + 1 ≤ 100000 := by rw [← hN]; exact Hal.out.len n hn4
        have hcapm : cap ≤ 9223372036854775807 ∧ N + 1 ≤ cap := by
          have := Hq5.out.own.own n hn4
          rw [hxv] at this
          have q := this.1
          rw [hN] at q
          obtain ⟨_, -, -, h1, h2, -⟩ := own_blk q
          unfold maxLen at h2
          exact ⟨h2, h1⟩
        have Hp := Lib.hid hp
        have Hfi := Lib.hid hfi
        have HN := Lib.hid hN
        have Hxv := Lib.hid hxv
        have hni : (n : Int) < 4 := by omega
        have hii : (i : Int) ≤ 100000 := by omega
        clear hp ht hfi hN hxv e0 e1 e2 e3
        go_wp2_with fail
        refine hcall.out.mono ?_
        rintro e w2 ⟨rfl, hb2⟩
        have hq2 := Hq5.out.below hb2
        have hz2 := grow_cell hb2 (block_lt_of_cell hz5) hz5
        have cn2 : w2.cell? ⟨So, n, none⟩ = some (.slice (some ⟨g, 0, none⟩) (N + 1) cap) := (cell_of_blk hq2.out n).trans ((vn_cell U hn4).trans (by rw [Hxv.out]))
        have hms2 := hq2.own.own n hn4
        rw [Hxv.out] at hms2
        have hidx := Lib.hid (mindex_any _ (U.l n) wo.heap.size z i w2 hms2.isMr hz2 Hfi.out)
        have Hb2 := Lib.hid hb2
        have Hq2 := Lib.hid hq2
        clear hcall C0 C1 C2 C3 hz5 hq2 hz2 hms2 hb2
        go_wp2_with fail
        refine hidx.out.mono ?_
        rintro e w3 ⟨rfl, hb3⟩
        have hq3 := Hq2.out.below hb3
        have cn3 : w3.cell? ⟨So, n, none⟩ = some (.slice (some ⟨g, 0, none⟩) (N + 1) cap) := (cell_of_blk hq3.out n).trans ((vn_cell U hn4).trans (by rw [Hxv.out]))
        have hms3 := hq3.own.own n hn4
        rw [Hxv.out] at hms3
        have hdel := Lib.hid (mdelete_any g N cap i (U.l n) w3 base hms3 hil (by omega))
        have hwr : IntKind.i64.wrap ((i : Int) + 1) = (i : Int) + 1 := IntWalk.i64_in _ (by omega)
        have hturn : Hid (∀ w4, OwnMs w4 base (.slice (some ⟨g, 0, none⟩) N cap) ((U.l n).eraseIdx i) → w3.grownBy w4 (some g) → ApQ w So base cE (U.upd n (.slice (some ⟨g, 0, none⟩) N cap) ((U.l n).eraseIdx i)) (w4.setCell ⟨So, n, none⟩ (.slice (some ⟨g, 0, none⟩) N cap)) ∧ w4.frozen? ⟨So, n, none⟩ = false ∧ ∃ v, w4.cell? ⟨So, n, none⟩ = some v) := by
          intro w4 h4 hg4
          have hne : some So ≠ some g := by
            intro e
            obtain ⟨cur, hc⟩ := own_rowblk hms3.1 g rfl
            injection e with e
            subst e
            rw [hq3.out] at hc
            injection hc with hc
            injection hc with _ hc _
            exact absurd hc (by decide)
          have h5 := (hg4.block So (blk_lt hq3.out) hne).trans hq3.out
          exact ⟨hq3.turn hn4 hs3 hbS (Below.refl _ _) (by rw [Hxv.out]; exact hg4) h4 (fun q hq => .inl (by rw [Hxv.out]; exact hq)), frozen_of_blk h5 n, _, (cell_of_blk h5 n).trans (vn_cell U hn4)⟩
        clear hidx hq3 hms3 cn2 hb3
        go_wp2_with fail
        refine hdel.out.mono ?_
        rintro e w4 ⟨rfl, h4, hg4⟩
        obtain ⟨hq6, hfz, vq, hcq⟩ := hturn.out w4 h4 hg4
        have Hq6 := Lib.hid hq6
        clear hq6 h4 hg4 hdel hturn cn3
        have hfin : Hid (DrI w So base cE V zs (k + 1) (.int .i64 (dropAt n i at0)) (w4.setCell ⟨So, n, none⟩ (.slice (some ⟨g, 0, none⟩) N cap))) := by
          obtain ⟨L', hL1, hL2⟩ := drop_some HUL.out (at0 := at0) hn4 Hp.out
          exact ⟨_, _, L', rfl, by rw [dropsP_step Hds.out Hzk.out]; exact hL1, hL2, Hal.out.drop hn4 (by rw [HN.out]; exact hil), Hq6.out⟩
        have hq7 := Hq6.out
        have hat := Hal.out.at0
        have hl0 := Hal.out.len 0 (by omega)
        have hwk : IntKind.i64.wrap ((k : Int) + 1) = ((k + 1 : Nat) : Int) := (IntWalk.i64_in _ (by omega)).trans (by omega)
        clear hq7
        by_cases hn0 : n = 0
        · by_cases ha : at0 < 0
          · have ed : dropAt n i at0 = (i : Int) := by unfold dropAt; rw [if_pos ⟨hn0, ha⟩]
            rw [ed] at hfin
            subst hn0
            have had : decide (at0 < 0) = true := decide_eq_true ha
            go_wp2_with fail
            go_roundw
            case rel => exact ⟨k + 1, hkn, by go_num, hfin.out⟩
            case measure => simp [intOf]; omega
          · have had : decide (at0 < 0) = false := decide_eq_false ha
            by_cases hia : (i : Int) < at0
            · have ed : dropAt n i at0 = at0 - 1 := by unfold dropAt; rw [if_neg (fun q => ha q.2), if_pos ⟨hn0, hia⟩]
              rw [ed] at hfin
              subst hn0
              have hid : decide ((i : Int) < at0) = true := decide_eq_true hia
              have hw1 : IntKind.i64.wrap (at0 - 1) = at0 - 1 := IntWalk.i64_in _ (by omega)
              go_wp2_with fail
              go_roundw
              case rel => exact ⟨k + 1, hkn, by go_num, hfin.out⟩
              case measure => simp [intOf]; omega
            · have ed : dropAt n i at0 = at0 := by unfold dropAt; rw [if_neg (fun q => ha q.2), if_neg (fun q => hia q.2)]
              rw [ed] at hfin
              subst hn0
              have hid : decide ((i : Int) < at0) = false := decide_eq_false hia
              go_wp2_with fail
              go_roundw
              case rel => exact ⟨k + 1, hkn, by go_num, hfin.out⟩
              case measure => simp [intOf]; omega
        · have ed : dropAt n i at0 = at0 := by unfold dropAt; rw [if_neg (fun q => hn0 q.1), if_neg (fun q => hn0 q.1)]
          rw [ed] at hfin
          have hnb : ((n : Int) == 0) = false := by rw [beq_eq_false_iff_ne]; omega
          go_wp2_with fail
          go_roundw
          case rel => exact ⟨k + 1, hkn, by go_num, hfin.out⟩
          case measure => simp [intOf]; omega
    · obtain rfl : k = nd := by omega
      have ce1 : wo.cell? ⟨w.heap.size + 1, 0, none⟩ = some (.slice aa na ac) := (cell_of_blk Hq.out.ed 0).trans (by rw [hcE]; rfl)
      have HA : Hid (AdI w So base cE L at0 (psM ps) 0 wo) := ⟨U, L, rfl, HUL.out, Hal.out, Hq.out⟩
      have Hdz := Hds
      rw [Hnd.out] at Hdz
      clear Hds HUL Hal Hq hq HUc e0 e1 e2 e3
      go_wp2_with fail
      clear ce1
      go_loopw [73] (fun tv wr => ∃ k : Nat, k ≤ na ∧ tv = .int .i64 k ∧ AdI w So base cE L at0 (psM ps) k wr) (fun tv _ => na - (intOf tv).toNat)
      case atStart => exact ⟨0, Nat.zero_le _, rfl, HA.out⟩
      case round =>
        obtain ⟨wo, rfl⟩ : ∃ wo : World, wo = wr := ⟨_, rfl⟩
        clear HA
        obtain ⟨k, hk, rfl, U, L2, hadd, hUL2, hal2, hq⟩ := hrel
        have Hadd := Lib.hid hadd
        have HUL2 := Lib.hid hUL2
        have Hal2 := Lib.hid hal2
        have Hq := Lib.hid hq
        clear hadd hUL2 hal2
        by_cases hkn : k < na
        · obtain ⟨b, off, rfl, hcell⟩ := Hax.out (by rw [← Hna.out]; omega)
          obtain ⟨p, hpk⟩ : ∃ p, ps[k]? = some p := ⟨_, List.getElem?_eq_getElem (by rw [← Hna.out]; exact hkn)⟩
          obtain ⟨d0, d1, d2, d3, d4, d5, d6, d7, d8, d9⟩ := IsPl.row (w := wo) (fun i x hi j y hj => (hq.bel.cell (block_lt_of_cell (hcell i x hi j y hj))).trans (hcell i x hi j y hj)) hpk
          have hrp := Hrr.out p (List.mem_of_getElem? hpk)
          have hrf := Hprl.out p (List.mem_of_getElem? hpk)
          have hpm : (psM ps)[k]? = some (p.1, p.2.1) := by unfold psM; rw [List.getElem?_map, hpk]; rfl
          obtain ⟨lv, ⟨⟨mz, mn, a, b, refs⟩, vr⟩⟩ := p
          dsimp only at d0 d1 d2 d3 d4 d5 d6 d7 d8 d9 hrp hrf hpm
          obtain ⟨ra, rc, hrv, -, -, -⟩ := id hrp
          subst hrv
          have Hrrp := Lib.hid hrp
          have Hpm := Lib.hid hpm
          have hbP : Below wo.heap.size wo (wo.alloc (.cells #[.int .i64 lv, .int .i64 mz, .int .i64 mn, .string a.u, .int .i64 a.s, .int .i64 a.k, .string b.u, .int .i64 b.s, .int .i64 b.k, .slice ra refs.length rc] 80)) := (Below.refl _ _).alloc (Nat.le_refl _) _
          have hqP := hq.below hbP
          have hmP := blk_of_alloc wo (.cells #[.int .i64 lv, .int .i64 mz, .int .i64 mn, .string a.u, .int .i64 a.s, .int .i64 a.k, .string b.u, .int .i64 b.s, .int .i64 b.k, .slice ra refs.length rc] 80)
          have hSl : So < wo.heap.size := blk_lt hq.out
          have hPsz : wo.heap.size < (wo.alloc (.cells #[.int .i64 lv, .int .i64 mz, .int .i64 mn, .string a.u, .int .i64 a.s, .int .i64 a.k, .string b.u, .int .i64 b.s, .int .i64 b.k, .slice ra refs.length rc] 80)).heap.size := blk_lt hmP
          clear hcell hpk hrp hpm hbP hq Hq
          by_cases hlv : lv < 0 ∨ 4 ≤ lv
          · have Hno := Lib.hid (apply_add_no (k := k + 1) Hdz.out (by rw [addsP_step Hadd.out Hpm.out]; exact add_none hlv) (by unfold psM; rw [List.length_map, ← Hna.out]; exact hkn))
            have HF := Lib.hid (hqP.final hs3 (.slice none 0 0) (.slice none 0 0) (.slice none 0 0) (.slice none 0 0))
            have hzz := fun j => frozen_of_blk hqP.res j
            have hcz := fun j => cell_of_blk hqP.res j
            unfold Vn.cells Vn.none at hcz
            dsimp only at hcz
            have M0 := (cell_of_blk hmP 0).trans (show _ = some (.int .i64 lv) from rfl)
            have Hlv := Lib.hid hlv
            clear hqP hmP hlv
            by_cases hneg : lv < 0
            · have hd1 : decide (lv < 0) = true := decide_eq_true hneg
              go_wp2_with fail
              obtain ⟨f1, f2, -⟩ := HF.out
              refine bodyPost_ret (results_row_slot Try.results24 _ _ (w.heap.size + 1 + 1) 61 _ (0, 0) _ _ rfl rfl f1 Try.underlying61 rfl vnInfo) rfl ?_
              exact Lib.hid (apOut_no Hno.out f2)
            · have hd1 : decide (lv < 0) = false := decide_eq_false hneg
              have hge : 4 ≤ lv := by have := Hlv.out; omega
              have hd2 : decide (lv ≥ 4) = true := decide_eq_true hge
              have hd3 : decide (4 ≤ lv) = true := decide_eq_true hge
              go_wp2_with fail
              obtain ⟨f1, f2, -⟩ := HF.out
              refine bodyPost_ret (results_row_slot Try.results24 _ _ (w.heap.size + 1 + 1) 61 _ (0, 0) _ _ rfl rfl f1 Try.underlying61 rfl vnInfo) rfl ?_
              exact Lib.hid (apOut_no Hno.out f2)
          · obtain ⟨n, rfl⟩ : ∃ n : Nat, lv = (n : Int) := ⟨lv.toNat, by omega⟩
            have hn4 : n < 4 := by omega
            have hni : (n : Int) < 4 := by omega
            have hd2 : decide ((n : Int) ≥ 4) = false := decide_eq_false (by omega)
            have hd3 : decide (4 ≤ (n : Int)) = false := decide_eq_false (by omega)
            obtain ⟨xa, cap, hxv⟩ := own_slice (hqP.own.own n hn4).1
            obtain ⟨xn, hxn⟩ : ∃ xn, xn = (U.l n).length := ⟨_, rfl⟩
            rw [← hxn] at hxv
            have Hxv := Lib.hid hxv
            have Hxn := Lib.hid hxn
            have cn1 : (wo.alloc (.cells #[.int .i64 n, .int .i64 mz, .int .i64 mn, .string a.u, .int .i64 a.s, .int .i64 a.k, .string b.u, .int .i64 b.s, .int .i64 b.k, .slice ra refs.length rc] 80)).cell? ⟨So, n, none⟩ = some (.slice xa xn cap) := (cell_of_blk hqP.out n).trans ((vn_cell U hn4).trans (by rw [hxv]))
            have k0 := (cell_of_blk hmP 0).trans (show _ = some (.int .i64 n) from rfl)
            have k3 := (cell_of_blk hmP 3).trans (show _ = some (.string a.u) from rfl)
            have k4 := (cell_of_blk hmP 4).trans (show _ = some (.int .i64 a.s) from rfl)
            have k5 := (cell_of_blk hmP 5).trans (show _ = some (.int .i64 a.k) from rfl)
            have Hqp := Lib.hid hqP
            have Hmp := Lib.hid hmP
            have hmxe : (if at0 < 0 then (0 : Int) else at0) = max at0 0 := by
              have := Int.max_def at0 0
              rw [this]; split <;> split <;> omega
            clear hqP hmP hxv hxn hlv
            by_cases hn0 : n = 0
            · obtain ⟨ii, hii⟩ : ∃ ii : Nat, (ii : Int) = max at0 0 := ⟨(max at0 0).toNat, by omega⟩
              have hgt : decide ((n : Int) > 0) = false := decide_eq_false (by omega)
              have hgt2 : decide (0 < (n : Int)) = false := decide_eq_false (by omega)
              have hgt3 : ¬ 0 < n := by omega
              have hgt4 : decide (0 < n) = false := decide_eq_false hgt3
              have Hn0 := Lib.hid hn0
              clear k3 k4 k5 hn0
              go_wp2_with fail
              rw [← hii]
              have hqY := Hqp.out
              have hmY := Hmp.out
              clear Hqp Hmp k0 cn1
              generalize wo.alloc (.cells #[.int .i64 n, .int .i64 mz, .int .i64 mn, .string a.u, .int .i64 a.s, .int .i64 a.k, .string b.u, .int .i64 b.s, .int .i64 b.k, .slice ra refs.length rc] 80) = w2 at *
              have hmD : w2.drew.heap[wo.heap.size]? = some (.cells #[.int .i64 n, .int .i64 mz, .int .i64 mn, .string a.u, .int .i64 a.s, .int .i64 a.k, .string b.u, .int .i64 b.s, .int .i64 b.k, .slice ra refs.length rc] 80 (0, 0)) := hmY
              have M0 := (cell_of_blk (w := w2.drew) hmD 0).trans (show _ = some (.int .i64 n) from rfl)
              have M1 := (cell_of_blk (w := w2.drew) hmD 1).trans (show _ = some (.int .i64 mz) from rfl)
              have M2 := (cell_of_blk (w := w2.drew) hmD 2).trans (show _ = some (.int .i64 mn) from rfl)
              have M3 := (cell_of_blk (w := w2.drew) hmD 3).trans (show _ = some (.string a.u) from rfl)
              have M4 := (cell_of_blk (w := w2.drew) hmD 4).trans (show _ = some (.int .i64 a.s) from rfl)
              have M5 := (cell_of_blk (w := w2.drew) hmD 5).trans (show _ = some (.int .i64 a.k) from rfl)
              have M6 := (cell_of_blk (w := w2.drew) hmD 6).trans (show _ = some (.string b.u) from rfl)
              have M7 := (cell_of_blk (w := w2.drew) hmD 7).trans (show _ = some (.int .i64 b.s) from rfl)
              have M8 := (cell_of_blk (w := w2.drew) hmD 8).trans (show _ = some (.int .i64 b.k) from rfl)
              have M9 := (cell_of_blk (w := w2.drew) hmD 9).trans (show _ = some (.slice ra refs.length rc) from rfl)
              have HM0 := Lib.hid M0
              have hqD : ApQ w So base cE U w2.drew := hqY.below ((Below.refl _ _).drew)
              have Hmc := Lib.hid (mcopied_any mz mn a b (.slice ra refs.length rc) refs w2.drew (Hrrp.out.below hqD.bel) hrf)
              have Hstep := Lib.hid (fun w1 va vc ho hb => ins_step (i := ii) hqD hs3 hbS Hadd.out HUL2.out Hal2.out (by omega) Hpm.out hn4 (by rw [addAt_rows HUL2.out at0 _ (by simp) (by simp; omega)]; simp only [Int.toNat_natCast]; rw [if_neg (by omega)]; omega) Hxv.out hmD hrf w1 va vc ho hb)
              clear hmD hmY hqD hqY
              clear hii hmxe
              --@[
              refine wp_region_held_drew (S := fun W => W.cell? ⟨wo.heap.size, 0, none⟩ = some (.int .i64 n)) (by kernel_rfl) HM0.out (fun hS0 => ?_)
              refine wpAnyH_take (i := 0) (v := ?_) rfl (by kernel_rfl) (by kernel_rfl) (by kernel_rfl) (fun _ _ _ h => h) (Or.inl ⟨by rfl, ?hy0⟩) hS0 ?_
              case hy0 => (intro W hSw; (try dsimp only at hSw); go_simp; try with_reducible rfl)
              try simp only [Act.put, List.setIfInBounds_toArray, List.set_cons_zero, List.set_cons_succ]
              refine wpAnyH_take (i := 1) (v := ?_) rfl (by kernel_rfl) (by kernel_rfl) (by kernel_rfl) (fun _ _ _ h => h) (Or.inl ⟨by rfl, ?hy1⟩) hS0 ?_
              case hy1 => (intro W hSw; (try dsimp only at hSw); go_simp; try with_reducible rfl)
              try simp only [Act.put, List.setIfInBounds_toArray, List.set_cons_zero, List.set_cons_succ]
              refine wpAnyH_take (i := 2) (v := ?_) rfl (by kernel_rfl) (by kernel_rfl) (by kernel_rfl) (fun _ _ _ h => h) (Or.inl ⟨by rfl, ?hy2⟩) hS0 ?_
              case hy2 => (intro W hSw; (try dsimp only at hSw); go_simp; try with_reducible rfl)
              try simp only [Act.put, List.setIfInBounds_toArray, List.set_cons_zero, List.set_cons_succ]
              refine wpAnyH_take (i := 3) (v := ?_) rfl (by kernel_rfl) (by kernel_rfl) (by kernel_rfl) (fun _ _ _ h => h) (Or.inl ⟨by rfl, ?hy3⟩) hS0 ?_
              case hy3 => (intro W hSw; (try dsimp only at hSw); go_simp; try with_reducible rfl)
              try simp only [Act.put, List.setIfInBounds_toArray, List.set_cons_zero, List.set_cons_succ]
              refine wpAnyH_take (i := 4) (v := ?_) rfl (by kernel_rfl) (by kernel_rfl) (by kernel_rfl) (fun _ _ _ h => h) (Or.inl ⟨by rfl, ?hy4⟩) hS0 ?_
              case hy4 => (intro W hSw; (try dsimp only at hSw); go_simp; try with_reducible rfl)
              try simp only [Act.put, List.setIfInBounds_toArray, List.set_cons_zero, List.set_cons_succ]
              refine wpAnyH_take (i := 9) (v := ?_) rfl (by kernel_rfl) (by kernel_rfl) (by kernel_rfl) (fun _ _ _ h => h) (Or.inl ⟨by rfl, ?hy9⟩) hS0 ?_
              case hy9 => (intro W hSw; (try dsimp only at hSw); go_simp; try with_reducible rfl)
              try simp only [Act.put, List.setIfInBounds_toArray, List.set_cons_zero, List.set_cons_succ]
              refine wpAnyH_ready (rs := [5]) (by kernel_rfl) (by simp) (AllReadyH.cons rfl (fun K hK => ?_) AllReadyH.nil)
              go_simp
              refine hK.out _ _ hS0 (fun _ => ?_)
              clear hK K
              try simp only [Act.put, List.setIfInBounds_toArray, List.set_cons_zero, List.set_cons_succ]
              refine wpAnyH_ready (rs := [6]) (by kernel_rfl) (by simp) (AllReadyH.cons rfl (fun K hK => ?_) AllReadyH.nil)
              go_simp
              refine Hmc.out.mono ?_
              rintro e w1 ⟨v', rfl, ho1, hb1⟩
              obtain ⟨va, vc, rfl⟩ := own_slice ho1
              have hS1 := grow_cell hb1 (block_lt_of_cell hS0) hS0
              have Hst := Lib.hid (Hstep.out w1 va vc ho1 hb1)
              clear ho1 hb1
              refine hK.out _ _ hS1 (fun _ => ?_)
              clear hK K
              try simp only [Act.put, List.setIfInBounds_toArray, List.set_cons_zero, List.set_cons_succ]
              refine wpAnyH_ready (rs := [7]) (by kernel_rfl) (by simp) (AllReadyH.cons rfl (fun K hK => ?_) AllReadyH.nil)
              go_simp
              have hS2 := grow_alloc hS1 (.cells #[.int .i64 mz, .int .i64 mn, .string a.u, .int .i64 a.s, .int .i64 a.k, .string b.u, .int .i64 b.s, .int .i64 b.k, .slice va refs.length vc] 78)
              refine hK.out _ _ hS2 (fun _ => ?_)
              clear hK K
              try simp only [Act.put, List.setIfInBounds_toArray, List.set_cons_zero, List.set_cons_succ]
              refine wpAnyH_ready (rs := [8]) (by kernel_rfl) (by simp) (AllReadyH.cons rfl (fun K hK => ?_) AllReadyH.nil)
              go_simp
              refine Hst.out.mono ?_
              rintro e w2 ⟨ya, yc, rfl, hP2, ⟨vq, hcq⟩, hfz, HA2⟩
              have hS3 : w2.cell? ⟨wo.heap.size, 0, none⟩ = some (.int .i64 n) := (cell_of_blk hP2 0).trans rfl
              have hS4 : (w2.setCell ⟨So, n, none⟩ (.slice ya (xn + 1) yc)).cell? ⟨wo.heap.size, 0, none⟩ = some (.int .i64 n) := (cell_of_blk ((Below.heap_setCell _ ⟨So, n, none⟩ _ _ (by show wo.heap.size ≠ So; omega)).trans hP2) 0).trans rfl
              clear hP2
              refine hK.out _ _ hS3 (fun _ => ?_)
              clear hK K
              try simp only [Act.put, List.setIfInBounds_toArray, List.set_cons_zero, List.set_cons_succ]
              refine wpAnyH_ready (rs := [10]) (by kernel_rfl) (by simp) (AllReadyH.cons rfl (fun K hK => ?_) AllReadyH.nil)
              go_simp
              refine hK.out _ _ hS3 (fun _ => ?_)
              clear hK K
              try simp only [Act.put, List.setIfInBounds_toArray, List.set_cons_zero, List.set_cons_succ]
              refine wpAnyH_ready (rs := [11]) (by kernel_rfl) (by simp) (AllReadyH.cons rfl (fun K hK => ?_) AllReadyH.nil)
              go_simp
              refine hK.out _ _ hS4 (fun _ => ?_)
              clear hK K
              try simp only [Act.put, List.setIfInBounds_toArray, List.set_cons_zero, List.set_cons_succ]
              refine wpAnyH_done (by kernel_rfl) ?_ _
              go_wp2_with fail
              go_roundw
              case rel => exact ⟨k + 1, hkn, by go_num, HA2.out⟩
              case measure => simp [intOf]; omega
              --@]
            · have hgt : decide ((n : Int) > 0) = true := decide_eq_true (by omega)
              have hgt2 : decide (0 < (n : Int)) = true := decide_eq_true (by omega)
              have hsrt := Hal2.out.sort n (by omega) hn4
              have hxn6 : xn ≤ 1000000 := by have := Hal2.out.len n hn4; have := Hxn.out; omega
              have hms := (Hqp.out.own.own n hn4).isMr
              rw [Hxv.out] at hms
              have Hbs := Lib.hid (mbsf_any _ (U.l n) a _ hms (by rw [← Hxn.out]; exact hxn6) hsrt)
              clear hsrt hms
              go_wp2_with fail
              refine Hbs.out.mono ?_
              rintro e w2 ⟨bb, rfl, hb2⟩
              have hqY := Hqp.out.below hb2
              have hmY := blk_bels hb2 Hmp.out
              have hmD : w2.drew.heap[wo.heap.size]? = some (.cells #[.int .i64 n, .int .i64 mz, .int .i64 mn, .string a.u, .int .i64 a.s, .int .i64 a.k, .string b.u, .int .i64 b.s, .int .i64 b.k, .slice ra refs.length rc] 80 (0, 0)) := hmY
              have M0 := (cell_of_blk (w := w2.drew) hmD 0).trans (show _ = some (.int .i64 n) from rfl)
              have M1 := (cell_of_blk (w := w2.drew) hmD 1).trans (show _ = some (.int .i64 mz) from rfl)
              have M2 := (cell_of_blk (w := w2.drew) hmD 2).trans (show _ = some (.int .i64 mn) from rfl)
              have M3 := (cell_of_blk (w := w2.drew) hmD 3).trans (show _ = some (.string a.u) from rfl)
              have M4 := (cell_of_blk (w := w2.drew) hmD 4).trans (show _ = some (.int .i64 a.s) from rfl)
              have M5 := (cell_of_blk (w := w2.drew) hmD 5).trans (show _ = some (.int .i64 a.k) from rfl)
              have M6 := (cell_of_blk (w := w2.drew) hmD 6).trans (show _ = some (.string b.u) from rfl)
              have M7 := (cell_of_blk (w := w2.drew) hmD 7).trans (show _ = some (.int .i64 b.s) from rfl)
              have M8 := (cell_of_blk (w := w2.drew) hmD 8).trans (show _ = some (.int .i64 b.k) from rfl)
              have M9 := (cell_of_blk (w := w2.drew) hmD 9).trans (show _ = some (.slice ra refs.length rc) from rfl)
              have HM0 := Lib.hid M0
              have hqD : ApQ w So base cE U w2.drew := hqY.below ((Below.refl _ _).drew)
              have Hmc := Lib.hid (mcopied_any mz mn a b (.slice ra refs.length rc) refs w2.drew (Hrrp.out.below hqD.bel) hrf)
              have Hstep := Lib.hid (fun w1 va vc ho hb => ins_step (i := insN (U.l n) a) hqD hs3 hbS Hadd.out HUL2.out Hal2.out (by omega) Hpm.out hn4 (by rw [addAt_rows HUL2.out at0 _ (by simp) (by simp; omega)]; simp only [Int.toNat_natCast]; rw [if_pos (by omega)]) Hxv.out hmD hrf w1 va vc ho hb)
              clear hmD hmY hqD hqY
              clear hb2 Hbs Hqp Hmp k0 k3 k4 k5 cn1
              generalize insN (U.l n) a = ii at *
              go_wp2_with fail
              --@[
              refine wp_region_held_drew (S := fun W => W.cell? ⟨wo.heap.size, 0, none⟩ = some (.int .i64 n)) (by kernel_rfl) HM0.out (fun hS0 => ?_)
              refine wpAnyH_take (i := 0) (v := ?_) rfl (by kernel_rfl) (by kernel_rfl) (by kernel_rfl) (fun _ _ _ h => h) (Or.inl ⟨by rfl, ?hy0⟩) hS0 ?_
              case hy0 => (intro W hSw; (try dsimp only at hSw); go_simp; try with_reducible rfl)
              try simp only [Act.put, List.setIfInBounds_toArray, List.set_cons_zero, List.set_cons_succ]
              refine wpAnyH_take (i := 1) (v := ?_) rfl (by kernel_rfl) (by kernel_rfl) (by kernel_rfl) (fun _ _ _ h => h) (Or.inl ⟨by rfl, ?hy1⟩) hS0 ?_
              case hy1 => (intro W hSw; (try dsimp only at hSw); go_simp; try with_reducible rfl)
              try simp only [Act.put, List.setIfInBounds_toArray, List.set_cons_zero, List.set_cons_succ]
              refine wpAnyH_take (i := 2) (v := ?_) rfl (by kernel_rfl) (by kernel_rfl) (by kernel_rfl) (fun _ _ _ h => h) (Or.inl ⟨by rfl, ?hy2⟩) hS0 ?_
              case hy2 => (intro W hSw; (try dsimp only at hSw); go_simp; try with_reducible rfl)
              try simp only [Act.put, List.setIfInBounds_toArray, List.set_cons_zero, List.set_cons_succ]
              refine wpAnyH_take (i := 3) (v := ?_) rfl (by kernel_rfl) (by kernel_rfl) (by kernel_rfl) (fun _ _ _ h => h) (Or.inl ⟨by rfl, ?hy3⟩) hS0 ?_
              case hy3 => (intro W hSw; (try dsimp only at hSw); go_simp; try with_reducible rfl)
              try simp only [Act.put, List.setIfInBounds_toArray, List.set_cons_zero, List.set_cons_succ]
              refine wpAnyH_take (i := 4) (v := ?_) rfl (by kernel_rfl) (by kernel_rfl) (by kernel_rfl) (fun _ _ _ h => h) (Or.inl ⟨by rfl, ?hy4⟩) hS0 ?_
              case hy4 => (intro W hSw; (try dsimp only at hSw); go_simp; try with_reducible rfl)
              try simp only [Act.put, List.setIfInBounds_toArray, List.set_cons_zero, List.set_cons_succ]
              refine wpAnyH_take (i := 9) (v := ?_) rfl (by kernel_rfl) (by kernel_rfl) (by kernel_rfl) (fun _ _ _ h => h) (Or.inl ⟨by rfl, ?hy9⟩) hS0 ?_
              case hy9 => (intro W hSw; (try dsimp only at hSw); go_simp; try with_reducible rfl)
              try simp only [Act.put, List.setIfInBounds_toArray, List.set_cons_zero, List.set_cons_succ]
              refine wpAnyH_ready (rs := [5]) (by kernel_rfl) (by simp) (AllReadyH.cons rfl (fun K hK => ?_) AllReadyH.nil)
              go_simp
              refine hK.out _ _ hS0 (fun _ => ?_)
              clear hK K
              try simp only [Act.put, List.setIfInBounds_toArray, List.set_cons_zero, List.set_cons_succ]
              refine wpAnyH_ready (rs := [6]) (by kernel_rfl) (by simp) (AllReadyH.cons rfl (fun K hK => ?_) AllReadyH.nil)
              go_simp
              refine Hmc.out.mono ?_
              rintro e w1 ⟨v', rfl, ho1, hb1⟩
              obtain ⟨va, vc, rfl⟩ := own_slice ho1
              have hS1 := grow_cell hb1 (block_lt_of_cell hS0) hS0
              have Hst := Lib.hid (Hstep.out w1 va vc ho1 hb1)
              clear ho1 hb1
              refine hK.out _ _ hS1 (fun _ => ?_)
              clear hK K
              try simp only [Act.put, List.setIfInBounds_toArray, List.set_cons_zero, List.set_cons_succ]
              refine wpAnyH_ready (rs := [7]) (by kernel_rfl) (by simp) (AllReadyH.cons rfl (fun K hK => ?_) AllReadyH.nil)
              go_simp
              have hS2 := grow_alloc hS1 (.cells #[.int .i64 mz, .int .i64 mn, .string a.u, .int .i64 a.s, .int .i64 a.k, .string b.u, .int .i64 b.s, .int .i64 b.k, .slice va refs.length vc] 78)
              refine hK.out _ _ hS2 (fun _ => ?_)
              clear hK K
              try simp only [Act.put, List.setIfInBounds_toArray, List.set_cons_zero, List.set_cons_succ]
              refine wpAnyH_ready (rs := [8]) (by kernel_rfl) (by simp) (AllReadyH.cons rfl (fun K hK => ?_) AllReadyH.nil)
              go_simp
              refine Hst.out.mono ?_
              rintro e w2 ⟨ya, yc, rfl, hP2, ⟨vq, hcq⟩, hfz, HA2⟩
              have hS3 : w2.cell? ⟨wo.heap.size, 0, none⟩ = some (.int .i64 n) := (cell_of_blk hP2 0).trans rfl
              have hS4 : (w2.setCell ⟨So, n, none⟩ (.slice ya (xn + 1) yc)).cell? ⟨wo.heap.size, 0, none⟩ = some (.int .i64 n) := (cell_of_blk ((Below.heap_setCell _ ⟨So, n, none⟩ _ _ (by show wo.heap.size ≠ So; omega)).trans hP2) 0).trans rfl
              clear hP2
              refine hK.out _ _ hS3 (fun _ => ?_)
              clear hK K
              try simp only [Act.put, List.setIfInBounds_toArray, List.set_cons_zero, List.set_cons_succ]
              refine wpAnyH_ready (rs := [10]) (by kernel_rfl) (by simp) (AllReadyH.cons rfl (fun K hK => ?_) AllReadyH.nil)
              go_simp
              refine hK.out _ _ hS3 (fun _ => ?_)
              clear hK K
              try simp only [Act.put, List.setIfInBounds_toArray, List.set_cons_zero, List.set_cons_succ]
              refine wpAnyH_ready (rs := [11]) (by kernel_rfl) (by simp) (AllReadyH.cons rfl (fun K hK => ?_) AllReadyH.nil)
              go_simp
              refine hK.out _ _ hS4 (fun _ => ?_)
              clear hK K
              try simp only [Act.put, List.setIfInBounds_toArray, List.set_cons_zero, List.set_cons_succ]
              refine wpAnyH_done (by kernel_rfl) ?_ _
              go_wp2_with fail
              go_roundw
              case rel => exact ⟨k + 1, hkn, by go_num, HA2.out⟩
              case measure => simp [intOf]; omega
              --@]
        · obtain rfl : k = na := by omega
          clear a0 n0 c0 a1 n1 c1 a2 n2 c2 a3 n3 c3
          obtain ⟨a0, n0, c0, a1, n1, c1, a2, n2, c2, a3, n3, c3, e0, e1, e2, e3⟩ := vn_slices hq.own
          have hUc : U.cells = #[.slice a0 n0 c0, .slice a1 n1 c1, .slice a2 n2 c2, .slice a3 n3 c3] := by unfold Vn.cells; rw [e0, e1, e2, e3]
          have hchk := vcheck_any U wo hq.own.isVn (fun p hp => Hal2.out.refs p.1 (tabs_mem hp).1 _ (tabs_mem hp).2)
          have hres := apply_end (L := lvOf V.l) (st := (L, at0)) (pm := psM ps) Hdz.out (by rw [show (psM ps).length = ps.length by unfold psM; rw [List.length_map], ← Hna.out]; exact Hadd.out)
          have hvv : verOk U.l = verOkP L2 := (verOk_lv U.l).trans (verOkP_congr HUL2.out)
          rw [← hvv] at hres
          have HUc := Lib.hid hUc
          rw [hUc] at hchk
          have ho := hq.out
          rw [hUc] at ho
          have C0 := (cell_of_blk ho 0).trans (show _ = some (.slice a0 n0 c0) from rfl)
          have C1 := (cell_of_blk ho 1).trans (show _ = some (.slice a1 n1 c1) from rfl)
          have C2 := (cell_of_blk ho 2).trans (show _ = some (.slice a2 n2 c2) from rfl)
          have C3 := (cell_of_blk ho 3).trans (show _ = some (.slice a3 n3 c3) from rfl)
          clear e0 e1 e2 e3 hUc ho hvv hq
          by_cases hv : verOk U.l = true
          · rw [hv] at hchk
            rw [if_pos hv] at hres
            have Hres := Lib.hid hres
            have Hchk := Lib.hid hchk
            clear hres hchk hv
            go_wp2_with fail
            refine Hchk.out.mono ?_
            rintro e w2 ⟨rfl, hb2⟩
            have hq2 := Hq.out.below hb2
            have HF := Lib.hid (hq2.final hs3 (.slice a0 n0 c0) (.slice a1 n1 c1) (.slice a2 n2 c2) (.slice a3 n3 c3))
            have hzz := fun j => frozen_of_blk hq2.res j
            have hcz := fun j => cell_of_blk hq2.res j
            unfold Vn.cells Vn.none at hcz
            dsimp only at hcz
            have hSl : So < wo.heap.size := blk_lt Hq.out.out
            have ho := hq2.out
            rw [HUc.out] at ho
            have D0 := (cell_of_blk ho 0).trans (show _ = some (.slice a0 n0 c0) from rfl)
            have D1 := (cell_of_blk ho 1).trans (show _ = some (.slice a1 n1 c1) from rfl)
            have D2 := (cell_of_blk ho 2).trans (show _ = some (.slice a2 n2 c2) from rfl)
            have D3 := (cell_of_blk ho 3).trans (show _ = some (.slice a3 n3 c3) from rfl)
            unfold chkV
            rw [if_pos rfl]
            clear hq2 hb2 ho C0 C1 C2 C3 Hchk
            go_wp2
            obtain ⟨f1, f2, f3⟩ := HF.out
            refine bodyPost_ret (results_row_slot Try.results24 _ _ (w.heap.size + 1 + 1) 61 _ (0, 0) _ _ rfl rfl f1 Try.underlying61 rfl vnInfo) rfl ?_
            rw [← HUc.out]
            exact Lib.hid (apOut_yes Hres.out f3 HUL2.out f2)
          · have hv' : verOk U.l = false := by simpa using hv
            rw [hv'] at hchk
            rw [if_neg hv] at hres
            have Hres := Lib.hid hres
            have Hchk := Lib.hid hchk
            clear hres hchk hv hv'
            go_wp2_with fail
            refine Hchk.out.mono ?_
            rintro e w2 ⟨rfl, hb2⟩
            have hq2 := Hq.out.below hb2
            have HF := Lib.hid (hq2.final hs3 (.slice none 0 0) (.slice none 0 0) (.slice none 0 0) (.slice none 0 0))
            have hzz := fun j => frozen_of_blk hq2.res j
            have hcz := fun j => cell_of_blk hq2.res j
            unfold Vn.cells Vn.none at hcz
            dsimp only at hcz
            unfold chkV
            rw [if_neg (by decide)]
            clear hq2 hb2 C0 C1 C2 C3 Hchk
            go_wp2
            obtain ⟨f1, f2, f3⟩ := HF.out
            refine bodyPost_ret (results_row_slot Try.results24 _ _ (w.heap.size + 1 + 1) 61 _ (0, 0) _ _ rfl rfl f1 Try.underlying61 rfl vnInfo) rfl ?_
            exact Lib.hid (apOut_no Hres.out f2)
end Go.Proofs.Ythjjelomlgmllaa.Tithe
