/- THE LAW LevelsCovers: walked. -/
import Derived.Test.YtjefpogeknbelaaLevelsPlays
import Derived.Test.YtjefpogeknbelaaLevCoversP
namespace Go.Proofs.Ytjefpogeknbelaa.Tithe
open Go.RowKit Go.Sort Go.Shelf
set_option linter.unusedVariables false
set_option linter.unusedSimpArgs false
set_option maxRecDepth 100000
attribute [local go_sem] Oper.semAt_some
set_option maxHeartbeats 6400000 in
theorem levelsCovers_walk (v : Value) (l : List Ed) (a b : ByteArray) (w : World) (h : IsEd w v l) (hal : a.size ≤ maxLen) (hbl : b.size ≤ maxLen) :
    Calls Try.prog 5 #[v, .string a, .string b] w fun e w' => e = .returned (.bool true) ∧ Below w.heap.size w w' := by
  have Hs := Lib.hid (small_any v l w h)
  have Hi := Lib.hid h
  unfold maxLen at hal hbl
  cases hsm : smallB l with
  | false =>
    rw [hsm] at Hs
    clear hsm h
    go_enter Try.func5, Try.ntmps5
    go_wp2_with fail
    refine Hs.out.mono ?_
    rintro e w1 ⟨rfl, hb⟩
    have Hb := Lib.hid hb
    clear hb
    go_wp2_with fail
    refine (awake15_any _).mono ?_
    rintro e wz ⟨rfl, hbz⟩
    have Hbz := Lib.hid (Hb.out.trans (hbz.mono Hb.out.size))
    clear hbz
    go_wp2
    go_ret
    exact ⟨rfl, Hbz.out⟩
  | true =>
    rw [hsm] at Hs
    have Hsm := Lib.hid hsm
    clear hsm h
    by_cases ha : 200 < a.size
    · go_enter Try.func5, Try.ntmps5
      go_wp2_with fail
      refine Hs.out.mono ?_
      rintro e w1 ⟨rfl, hb⟩
      have Hb := Lib.hid hb
      clear hb
      go_wp2_with fail
      refine (awake15_any _).mono ?_
      rintro e wz ⟨rfl, hbz⟩
      have Hbz := Lib.hid (Hb.out.trans (hbz.mono Hb.out.size))
      clear hbz
      go_wp2
      go_ret
      exact ⟨rfl, Hbz.out⟩
    · by_cases hb : 200 < b.size
      · go_enter Try.func5, Try.ntmps5
        go_wp2_with fail
        refine Hs.out.mono ?_
        rintro e w1 ⟨rfl, hb0⟩
        have Hb := Lib.hid hb0
        clear hb0
        go_wp2_with fail
        refine (awake15_any _).mono ?_
        rintro e wz ⟨rfl, hbz⟩
        have Hbz := Lib.hid (Hb.out.trans (hbz.mono Hb.out.size))
        clear hbz
        go_wp2
        go_ret
        exact ⟨rfl, Hbz.out⟩
      · have Ha := Lib.hid (show a.size ≤ maxLen by unfold maxLen; omega)
        have Hbm := Lib.hid (show b.size ≤ maxLen by unfold maxLen; omega)
        go_enter Try.func5, Try.ntmps5
        go_wp2_with fail
        refine Hs.out.mono ?_
        rintro e w1 ⟨rfl, hb1⟩
        have Hb1 := Lib.hid hb1
        have Hi1 := Lib.hid (isEd_bel Hi.out hb1)
        clear hb1
        go_wp2_with fail
        refine (play_any v l w1 Hi1.out Hsm.out).mono ?_
        rintro e w3 qq
        obtain ⟨U, X, xb, rfl, hxb, hU, hX, heU, heX, hsx, hb3⟩ := qq.out
        have Hb3 := Lib.hid (Hb1.out.trans (hb3.mono Hb1.out.size))
        obtain ⟨va0, vn0, vc0, va1, vn1, vc1, va2, vn2, vc2, va3, vn3, vc3, hc⟩ := isVn_agg hU
        have hP := playP_ok Hsm.out l.length (Nat.le_refl _)
        have h40 := (smallB_ed Hsm.out).2
        have hT := lvS_tabs hP.1 heU
        have HT := Lib.hid hT
        have Hv := Lib.hid (lvE_ver hP.2 heU)
        have hTl : (tabs U.l 4).length ≤ 100000 := by have := hT.1; omega
        have hTr : ∀ p ∈ tabs U.l 4, p.2.1.refs.length ≤ 1000000 := fun p hp => by have := (hT.2 p hp).1; omega
        have HAt := Lib.hid (fun (n : Int) (A : World) (hA : Below w3.heap.size w3 A) => at_any U n a A (hU.below hA) hTl hTr (fun n hn => vn_slv0 hU hn))
        have HOv := Lib.hid (fun (n : Int) (A : World) (hA : Below w3.heap.size w3 A) => over_any U n a b A (hU.below hA) hTl hTr)
        rw [hc] at HAt HOv ⊢
        have HB := Lib.hid ((Below.refl w3.heap.size w3).alloc (Nat.le_refl _) (.cells #[.slice va0 vn0 vc0, .slice va1 vn1 vc1, .slice va2 vn2 vc2, .slice va3 vn3 vc3] 48))
        have HM := Lib.hid (blk_of_alloc w3 (.cells #[.slice va0 vn0 vc0, .slice va1 vn1 vc1, .slice va2 vn2 vc2, .slice va3 vn3 vc3] 48))
        obtain ⟨vb, hvb⟩ : ∃ vb, vb = w3.heap.size := ⟨_, rfl⟩
        have Hvb := Lib.hid hvb
        rw [← hvb] at HM
        clear hxb hU hX heU heX hsx hb3 hc hP h40 hT hTl hTr qq hvb Hs Hi Hi1 Hb1
        go_wp2_with fail
        rw [← Hvb.out]
        generalize w3.alloc (.cells #[.slice va0 vn0 vc0, .slice va1 vn1 vc1, .slice va2 vn2 vc2, .slice va3 vn3 vc3] 48) = W3 at *
        clear Hvb
        go_loopw [10] (fun nv wr => ∃ n : Nat, 1 ≤ n ∧ n ≤ 4 ∧ nv = .int .i64 n ∧ Below W3.heap.size W3 wr) (fun nv _ => 4 - (intOf nv).toNat)
        case atStart => exact ⟨1, by omega, by omega, rfl, Below.refl _ _⟩
        case round =>
          obtain ⟨wo, rfl⟩ : ∃ wo : World, wo = wr := ⟨_, rfl⟩
          obtain ⟨n, hn1, hn4, rfl, hb⟩ := hrel
          have Hb := Lib.hid hb
          have Hbw := Lib.hid (HB.out.trans (hb.mono HB.out.size))
          have HMo := Lib.hid (blk_bels hb HM.out)
          clear hb
          by_cases hlt : n < 4
          · have hni : (n : Int) < 4 := by omega
            have Hone := Lib.hid (at_one Hv.out hn1 hlt a)
            have c0 := (cell_of_blk HMo.out 0).trans (show _ = some (.slice va0 vn0 vc0) from rfl)
            have c1 := (cell_of_blk HMo.out 1).trans (show _ = some (.slice va1 vn1 vc1) from rfl)
            have c2 := (cell_of_blk HMo.out 2).trans (show _ = some (.slice va2 vn2 vc2) from rfl)
            have c3 := (cell_of_blk HMo.out 3).trans (show _ = some (.slice va3 vn3 vc3) from rfl)
            go_wp2_with fail
            refine (HAt.out _ _ Hbw.out).mono ?_
            rintro e wa ⟨x, rws, rfl, hown, hrw, hba⟩
            obtain ⟨xa, xc, rfl⟩ := own_slice hown.1
            have hk : rws.length ≤ 1 := by have := congrArg List.length hrw; rw [List.length_map, List.length_map] at this; rw [this]; exact Hone.out
            generalize rws.length = k at *
            have Hba := Lib.hid (Hb.out.trans (hba.mono Hb.out.size))
            have Hbwa := Lib.hid (HB.out.trans (Hba.out.mono HB.out.size))
            have HMa := Lib.hid (blk_bels hba HMo.out)
            have hk1 : ¬ 1 < k := by omega
            have hk2 : decide ((k : Int) > 1) = false := decide_eq_false (by omega)
            have hk3 : decide (1 < (k : Int)) = false := decide_eq_false (by omega)
            clear hown hrw hba c0 c1 c2 c3 Hone
            have c0 := (cell_of_blk HMa.out 0).trans (show _ = some (.slice va0 vn0 vc0) from rfl)
            have c1 := (cell_of_blk HMa.out 1).trans (show _ = some (.slice va1 vn1 vc1) from rfl)
            have c2 := (cell_of_blk HMa.out 2).trans (show _ = some (.slice va2 vn2 vc2) from rfl)
            have c3 := (cell_of_blk HMa.out 3).trans (show _ = some (.slice va3 vn3 vc3) from rfl)
            go_wp2_with fail
            refine (HOv.out _ _ Hbwa.out).mono ?_
            rintro e wb ⟨x2, rws2, rfl, hown, hrw, hbb⟩
            have Hrw := Lib.hid hrw
            obtain ⟨ya, yc, rfl⟩ := own_slice hown.1
            obtain ⟨-, hyc, hym, hyx⟩ := hown.isMr.1.at
            have Hyx := Lib.hid hyx
            have Hrr := Lib.hid hown.isMr.2
            obtain ⟨m, hm⟩ : ∃ m, m = rws2.length := ⟨_, rfl⟩
            rw [← hm] at hyc Hyx ⊢
            have Hm := Lib.hid hm
            have Hbb := Lib.hid (Hba.out.trans (hbb.mono Hba.out.size))
            clear hown hrw hbb c0 c1 c2 c3 HMo HMa hk hk1 hk2 hk3 hyx hm Hbw Hbwa Hba Hb
            go_wp2_with fail
            go_loopw [51] (fun iv wr => ∃ i : Nat, i ≤ m ∧ iv = .int .i64 i ∧ Below wb.heap.size wb wr) (fun iv _ => m - (intOf iv).toNat)
            case atStart => exact ⟨0, Nat.zero_le _, rfl, Below.refl _ _⟩
            case round =>
              obtain ⟨wq, rfl⟩ : ∃ wq : World, wq = wr := ⟨_, rfl⟩
              obtain ⟨i, hi, rfl, hbq⟩ := hrel
              have Hbq := Lib.hid hbq
              by_cases him : i < m
              · obtain ⟨bb, off, rfl, hcell⟩ := Hyx.out (by omega)
                obtain ⟨r, hr⟩ : ∃ r, rws2[i]? = some r := ⟨_, List.getElem?_eq_getElem (by rw [← Hm.out]; exact him)⟩
                obtain ⟨d0, d1, d2, d3, d4, d5, d6, d7, d8⟩ := IsMr.row (w := wq) (fun i x hi j y hj => (hbq.cell (block_lt_of_cell (hcell i x hi j y hj))).trans (hcell i x hi j y hj)) hr
                obtain ⟨⟨o1, o2⟩, pp, hpp, epp⟩ := over_row Hrw.out hr
                have hz := HT.out.2 pp hpp
                rw [epp] at hz
                obtain ⟨ra, rc, hrv, -, -, -⟩ := Hrr.out r (List.mem_of_getElem? hr)
                obtain ⟨⟨z, n2, ka, kb, refs⟩, vr⟩ := r
                dsimp only at d0 d1 d2 d3 d4 d5 d6 d7 d8 hrv o1 o2 hz
                generalize refs.length = rn at *
                subst hrv
                have HO1 := Lib.hid (fun W => Order_any ka.u a (by have := hz.2.1; dsimp only at this; unfold maxLen; omega) Ha.out W)
                have HO2 := Lib.hid (fun W => Order_any b kb.u Hbm.out (by have := hz.2.2; dsimp only at this; unfold maxLen; omega) W)
                have hAl : Below wq.heap.size wq (wq.alloc (.cells #[.int .i64 z, .int .i64 n2, .string ka.u, .int .i64 ka.s, .int .i64 ka.k, .string kb.u, .int .i64 kb.s, .int .i64 kb.k, .slice ra rn rc] 26)) := (Below.refl _ _).alloc (Nat.le_refl _) _
                have HAl := Lib.hid (hbq.trans (hAl.mono hbq.size))
                have HMq := Lib.hid (blk_of_alloc wq (.cells #[.int .i64 z, .int .i64 n2, .string ka.u, .int .i64 ka.s, .int .i64 ka.k, .string kb.u, .int .i64 kb.s, .int .i64 kb.k, .slice ra rn rc] 26))
                obtain ⟨mb, hmb⟩ : ∃ mb, mb = wq.heap.size := ⟨_, rfl⟩
                have Hmb := Lib.hid hmb
                rw [← hmb] at HMq
                have hC1 := covers_any z n2 ka kb (.slice ra rn rc) a (wq.alloc (.cells #[.int .i64 z, .int .i64 n2, .string ka.u, .int .i64 ka.s, .int .i64 ka.k, .string kb.u, .int .i64 kb.s, .int .i64 kb.k, .slice ra rn rc] 26)) ra rn rc rfl
                have hC2 := fun W => covers_any z n2 ka kb (.slice ra rn rc) b W ra rn rc rfl
                have Hx1 : Hid (coverB ka kb a = false → ¬ cmpB ka.u a < 0) := Lib.hid (fun q => not_cover_a q o2)
                have Hx2 : Hid (coverB ka kb b = false → ¬ cmpB b kb.u < 0) := Lib.hid (fun q => not_cover_b q o1)
                have HC1 := Lib.hid hC1
                have HC2 := Lib.hid hC2
                clear hr hcell hbq hAl hmb hC1 hC2 hpp epp hz o1 o2 Hbq
                generalize coverB ka kb a = k1 at *
                generalize coverB ka kb b = k2 at *
                generalize cmpB ka.u a = D1 at *
                generalize cmpB b kb.u = D2 at *
                cases k1 with
                | true =>
                  go_wp2_with fail
                  refine HC1.out.mono ?_
                  rintro e wc ⟨rfl, hbc⟩
                  have Hbc := Lib.hid (HAl.out.trans (hbc.mono HAl.out.size))
                  clear hbc d0 d1 d2 d3 d4 d5 d6 d7 d8
                  go_wp2_with fail
                  go_roundw
                  case rel => exact ⟨i + 1, by omega, by go_num, Hbc.out⟩
                  case measure => simp [intOf]; omega
                | false =>
                  have hD1 := Hx1.out rfl
                  have hd1 : decide (D1 < 0) = false := decide_eq_false hD1
                  cases k2 with
                  | true =>
                    go_wp2_with fail
                    rw [← Hmb.out]
                    refine HC1.out.mono ?_
                    rintro e wc ⟨rfl, hbc⟩
                    have Hbc := Lib.hid (HAl.out.trans (hbc.mono HAl.out.size))
                    have HMc := Lib.hid (blk_bels hbc HMq.out)
                    clear hbc d0 d1 d2 d3 d4 d5 d6 d7 d8
                    have e0 := (cell_of_blk HMc.out 0).trans (show _ = some (.int .i64 z) from rfl)
                    have e1 := (cell_of_blk HMc.out 1).trans (show _ = some (.int .i64 n2) from rfl)
                    have e2 := (cell_of_blk HMc.out 2).trans (show _ = some (.string ka.u) from rfl)
                    have e3 := (cell_of_blk HMc.out 3).trans (show _ = some (.int .i64 ka.s) from rfl)
                    have e4 := (cell_of_blk HMc.out 4).trans (show _ = some (.int .i64 ka.k) from rfl)
                    have e5 := (cell_of_blk HMc.out 5).trans (show _ = some (.string kb.u) from rfl)
                    have e6 := (cell_of_blk HMc.out 6).trans (show _ = some (.int .i64 kb.s) from rfl)
                    have e7 := (cell_of_blk HMc.out 7).trans (show _ = some (.int .i64 kb.k) from rfl)
                    have e8 := (cell_of_blk HMc.out 8).trans (show _ = some (.slice ra rn rc) from rfl)
                    go_wp2_with fail
                    refine (HC2.out _).mono ?_
                    rintro e wd ⟨rfl, hbd⟩
                    have Hbd := Lib.hid (Hbc.out.trans (hbd.mono Hbc.out.size))
                    clear hbd e0 e1 e2 e3 e4 e5 e6 e7 e8
                    go_wp2_with fail
                    go_roundw
                    case rel => exact ⟨i + 1, by omega, by go_num, Hbd.out⟩
                    case measure => simp [intOf]; omega
                  | false =>
                    have hD2 := Hx2.out rfl
                    have hd2 : decide (D2 < 0) = false := decide_eq_false hD2
                    go_wp2_with fail
                    rw [← Hmb.out]
                    refine HC1.out.mono ?_
                    rintro e wc ⟨rfl, hbc⟩
                    have Hbc := Lib.hid (HAl.out.trans (hbc.mono HAl.out.size))
                    have HMc := Lib.hid (blk_bels hbc HMq.out)
                    clear hbc d0 d1 d2 d3 d4 d5 d6 d7 d8
                    have e0 := (cell_of_blk HMc.out 0).trans (show _ = some (.int .i64 z) from rfl)
                    have e1 := (cell_of_blk HMc.out 1).trans (show _ = some (.int .i64 n2) from rfl)
                    have e2 := (cell_of_blk HMc.out 2).trans (show _ = some (.string ka.u) from rfl)
                    have e3 := (cell_of_blk HMc.out 3).trans (show _ = some (.int .i64 ka.s) from rfl)
                    have e4 := (cell_of_blk HMc.out 4).trans (show _ = some (.int .i64 ka.k) from rfl)
                    have e5 := (cell_of_blk HMc.out 5).trans (show _ = some (.string kb.u) from rfl)
                    have e6 := (cell_of_blk HMc.out 6).trans (show _ = some (.int .i64 kb.s) from rfl)
                    have e7 := (cell_of_blk HMc.out 7).trans (show _ = some (.int .i64 kb.k) from rfl)
                    have e8 := (cell_of_blk HMc.out 8).trans (show _ = some (.slice ra rn rc) from rfl)
                    go_wp2_with fail
                    refine (HC2.out _).mono ?_
                    rintro e wd ⟨rfl, hbd⟩
                    have Hbd := Lib.hid (Hbc.out.trans (hbd.mono Hbc.out.size))
                    have HMd := Lib.hid (blk_bels hbd HMc.out)
                    clear hbd e0 e1 e2 e3 e4 e5 e6 e7 e8
                    have e2 := (cell_of_blk HMd.out 2).trans (show _ = some (.string ka.u) from rfl)
                    go_wp2_with fail
                    refine (HO1.out _).mono ?_
                    rintro e we ⟨rfl, nd, rfl⟩
                    have Hbe := Lib.hid (below_drewN Hbd.out nd)
                    have e5 : (wd.drewN nd).cell? ⟨mb, 5, none⟩ = some (.string kb.u) := by rw [World.cell?_drewN]; exact (cell_of_blk HMd.out 5).trans (show (#[.int .i64 z, .int .i64 n2, .string ka.u, .int .i64 ka.s, .int .i64 ka.k, .string kb.u, .int .i64 kb.s, .int .i64 kb.k, .slice ra rn rc] : Array Value)[5]? = some (.string kb.u) from rfl)
                    clear e2
                    go_wp2_with fail
                    refine (HO2.out _).mono ?_
                    rintro e wf ⟨rfl, nd2, rfl⟩
                    have Hbf := Lib.hid (below_drewN Hbd.out (nd + nd2))
                    clear e5
                    go_wp2_with fail
                    go_roundw
                    case rel => exact ⟨i + 1, by omega, by go_num, Hbf.out⟩
                    case measure => simp [intOf]; omega
              · obtain rfl : i = m := by omega
                have Hbo := Lib.hid (Hbb.out.trans (hbq.mono Hbb.out.size))
                clear hbq
                go_wp2_with fail
                go_roundw
                case rel => exact ⟨n + 1, by omega, by omega, by go_num, Hbo.out⟩
                case measure => simp [intOf]; omega
          · obtain rfl : n = 4 := by omega
            have Hbo := Lib.hid (Hb3.out.trans (Hbw.out.mono Hb3.out.size))
            go_wp2_with fail
            refine (awake15_any _).mono ?_
            rintro e wz ⟨rfl, hbz⟩
            have Hbz := Lib.hid (Hbo.out.trans (hbz.mono Hbo.out.size))
            clear hbz
            go_wp2
            go_ret
            exact ⟨rfl, Hbz.out⟩
end Go.Proofs.Ytjefpogeknbelaa.Tithe
