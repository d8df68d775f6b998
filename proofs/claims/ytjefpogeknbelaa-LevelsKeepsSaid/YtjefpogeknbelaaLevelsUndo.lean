/- THE LAW LevelsUndo: walked. -/
import Derived.Test.YtjefpogeknbelaaLevelsPlays
import Derived.Test.YtjefpogeknbelaaLevUndoP
namespace Go.Proofs.Ytjefpogeknbelaa.Tithe
open Go.RowKit Go.Sort Go.Shelf
set_option linter.unusedVariables false
set_option linter.unusedSimpArgs false
set_option maxRecDepth 100000
theorem tables_num (V : Vn) (w : World) (h : IsVn w V) (hl : (tabs V.l 4).length ≤ 100000) (hrl : ∀ p ∈ tabs V.l 4, p.2.1.refs.length ≤ 1000000) (N : Nat) (hN : (tabs V.l 4).length = N) :
    Calls Try.prog 18 #[.agg V.cells] w fun e w' => ∃ a c, e = .returned (.slice a N c) ∧ Below w.heap.size w w' := by
  refine (tables_any V w h hl hrl).mono fun e w' q => ?_
  obtain ⟨x, rows, rfl, hown, hr, hb⟩ := q
  obtain ⟨a, c, rfl⟩ := own_slice hown.1
  have hl : rows.length = N := by rw [← hN]; have := congrArg List.length hr; simpa using this
  exact ⟨a, c, by rw [hl], hb⟩
/-- one edit of one place, in memory as the law lays it -/
theorem small_one (X : World) (lv : Int) (r : Mr) (hr : IsRr X r.2 r.1.refs) :
    Calls Try.prog 15 #[.slice (some ⟨X.heap.size + 1, 0, none⟩) 1 1] ((X.alloc (.cells (plC (lv, r)).toArray 78)).alloc (.cells #[.slice (some ⟨X.heap.size, 0, none⟩) 1 1, .slice none 0 0] 43)) fun e w' => e = .returned (.bool (smallB [⟨.slice (some ⟨X.heap.size, 0, none⟩) 1 1, .slice none 0 0, [(lv, r)], []⟩])) ∧ Below ((X.alloc (.cells (plC (lv, r)).toArray 78)).alloc (.cells #[.slice (some ⟨X.heap.size, 0, none⟩) 1 1, .slice none 0 0] 43)).heap.size ((X.alloc (.cells (plC (lv, r)).toArray 78)).alloc (.cells #[.slice (some ⟨X.heap.size, 0, none⟩) 1 1, .slice none 0 0] 43)) w' := by
  have hA : Below X.heap.size X (X.alloc (.cells (plC (lv, r)).toArray 78)) := (Below.refl _ _).alloc (Nat.le_refl _) _
  have hB : Below (X.alloc (.cells (plC (lv, r)).toArray 78)).heap.size (X.alloc (.cells (plC (lv, r)).toArray 78)) ((X.alloc (.cells (plC (lv, r)).toArray 78)).alloc (.cells #[.slice (some ⟨X.heap.size, 0, none⟩) 1 1, .slice none 0 0] 43)) := (Below.refl _ _).alloc (Nat.le_refl _) _
  refine small_any _ _ _ ⟨isSl_lit edC_len [⟨.slice (some ⟨X.heap.size, 0, none⟩) 1 1, .slice none 0 0, [(lv, r)], []⟩] _ _ _ (by simp only [World.size_alloc]) rfl 1 rfl (by unfold maxLen; omega), fun x hx => ?_⟩
  rw [List.mem_singleton.1 hx]
  refine edIn_bel ⟨⟨isSl_lit plC_len [(lv, r)] _ _ _ rfl (by simp [flat]) 1 rfl (by unfold maxLen; omega), fun p hp => ?_⟩, isSl_nil _ _ _ _ _ (by unfold maxLen; omega)⟩ hB
  rw [List.mem_singleton.1 hp]
  exact hr.below hA
theorem small_one_ok {va vd : Value} {lv : Int} {r : Mr} (h : smallB [⟨va, vd, [(lv, r)], []⟩] = true) : mtSmall r.1 := by
  have := (edSmall_ps ((smallB_ed h).1 _ (List.mem_singleton.2 rfl))).2.2 (lv, r) (List.mem_singleton.2 rfl)
  exact this
theorem isPl_new (X : World) (lv : Int) (r : Mr) (hr : IsRr X r.2 r.1.refs) : IsPl (X.alloc (.cells (plC (lv, r)).toArray 78)) (.slice (some ⟨X.heap.size, 0, none⟩) 1 1) [(lv, r)] := by
  refine ⟨isSl_lit plC_len [(lv, r)] _ _ _ rfl (by simp [flat]) 1 rfl (by unfold maxLen; omega), fun p hp => ?_⟩
  rw [List.mem_singleton.1 hp]
  exact hr.below ((Below.refl _ _).alloc (Nat.le_refl _) _)
theorem isDz_new (X : World) (z : Int) : IsDz (X.alloc (.cells #[.int .i64 z] 3)) (.slice (some ⟨X.heap.size, 0, none⟩) 1 1) [z] :=
  isSl_lit dzC_len [z] _ _ _ rfl rfl 1 rfl (by unfold maxLen; omega)
theorem isDz_none (X : World) : IsDz X (.slice none 0 0) [] := isSl_nil _ _ _ _ _ (by unfold maxLen; omega)
theorem isPl_none (X : World) : IsPl X (.slice none 0 0) [] := ⟨isSl_nil _ _ _ _ _ (by unfold maxLen; omega), fun p hp => by cases hp⟩
attribute [local go_sem] Oper.semAt_some
set_option maxHeartbeats 6400000 in
theorem levelsUndo_walk (v : Value) (l : List Ed) (q : Int × Mr) (w : World) (h : IsEd w v l) (hq : MrIn w q.2) :
    Calls Try.prog 8 #[v, .agg (plC q).toArray] w fun e w' => e = .returned (.bool true) ∧ Below w.heap.size w w' := by
  obtain ⟨lv, ⟨⟨mz, mn, a, b, refs⟩, vr⟩⟩ := q
  have hq0 : IsRr w vr refs := hq
  clear hq
  obtain ⟨ra, rc, hrv, -, -, -⟩ := id hq0
  obtain ⟨rn, hrn⟩ : ∃ rn, rn = refs.length := ⟨_, rfl⟩
  rw [← hrn] at hrv
  subst hrv
  show Calls Try.prog 8 #[v, .agg #[.int .i64 lv, .int .i64 mz, .int .i64 mn, .string a.u, .int .i64 a.s, .int .i64 a.k, .string b.u, .int .i64 b.s, .int .i64 b.k, .slice ra rn rc]] w _
  have HA := Lib.hid ((Below.refl w.heap.size w).alloc (Nat.le_refl _) (.cells #[.int .i64 lv, .int .i64 mz, .int .i64 mn, .string a.u, .int .i64 a.s, .int .i64 a.k, .string b.u, .int .i64 b.s, .int .i64 b.k, .slice ra rn rc] 78))
  have HP := Lib.hid (blk_of_alloc w (.cells #[.int .i64 lv, .int .i64 mz, .int .i64 mn, .string a.u, .int .i64 a.s, .int .i64 a.k, .string b.u, .int .i64 b.s, .int .i64 b.k, .slice ra rn rc] 78))
  have Hs := Lib.hid (small_any v l _ (isEd_bel h HA.out))
  have Hq := Lib.hid (hq0.below HA.out)
  have Hi := Lib.hid (isEd_bel h HA.out)
  obtain ⟨pb, hpb⟩ : ∃ pb, pb = w.heap.size := ⟨_, rfl⟩
  have Hpb := Lib.hid hpb
  rw [← hpb] at HP
  clear h hq0 hrn hpb
  cases hsm : smallB l with
  | false =>
    rw [hsm] at Hs
    clear hsm
    go_enter Try.func8, Try.ntmps8
    go_wp2_with fail
    refine Hs.out.mono ?_
    rintro e w1 ⟨rfl, hb⟩
    have Hb := Lib.hid (HA.out.trans (hb.mono HA.out.size))
    clear hb
    go_wp2_with fail
    refine (awake15_any _).mono ?_
    rintro e w2 ⟨rfl, hb2⟩
    have Hb2 := Lib.hid (Hb.out.trans (hb2.mono Hb.out.size))
    clear hb2
    go_wp2
    go_ret
    exact ⟨rfl, Hb2.out⟩
  | true =>
    rw [hsm] at Hs
    have Hsm := Lib.hid hsm
    clear hsm
    go_enter Try.func8, Try.ntmps8
    go_wp2_with fail
    rw [← Hpb.out]
    refine Hs.out.mono ?_
    rintro e w1 ⟨rfl, hb⟩
    have Hb1 := Lib.hid (HA.out.trans (hb.mono HA.out.size))
    have HP1 := Lib.hid (blk_bels hb HP.out)
    have Hq1 := Lib.hid (Hq.out.below hb)
    have Hi1 := Lib.hid (isEd_bel Hi.out hb)
    have f0 := (cell_of_blk HP1.out 0).trans (show _ = some (.int .i64 lv) from rfl)
    have f1 := (cell_of_blk HP1.out 1).trans (show _ = some (.int .i64 mz) from rfl)
    have f2 := (cell_of_blk HP1.out 2).trans (show _ = some (.int .i64 mn) from rfl)
    have f3 := (cell_of_blk HP1.out 3).trans (show _ = some (.string a.u) from rfl)
    have f4 := (cell_of_blk HP1.out 4).trans (show _ = some (.int .i64 a.s) from rfl)
    have f5 := (cell_of_blk HP1.out 5).trans (show _ = some (.int .i64 a.k) from rfl)
    have f6 := (cell_of_blk HP1.out 6).trans (show _ = some (.string b.u) from rfl)
    have f7 := (cell_of_blk HP1.out 7).trans (show _ = some (.int .i64 b.s) from rfl)
    have f8 := (cell_of_blk HP1.out 8).trans (show _ = some (.int .i64 b.k) from rfl)
    have f9 := (cell_of_blk HP1.out 9).trans (show _ = some (.slice ra rn rc) from rfl)
    have Ho := Lib.hid (small_one w1 lv (⟨mz, mn, a, b, refs⟩, .slice ra rn rc) Hq1.out)
    have HB : Below w1.heap.size w1 ((w1.alloc (.cells #[.int .i64 lv, .int .i64 mz, .int .i64 mn, .string a.u, .int .i64 a.s, .int .i64 a.k, .string b.u, .int .i64 b.s, .int .i64 b.k, .slice ra rn rc] 78)).alloc (.cells #[.slice (some ⟨w1.heap.size, 0, none⟩) 1 1, .slice none 0 0] 43)) := ((Below.refl _ _).alloc (Nat.le_refl _) _).alloc (by simp) _
    have Hok : Hid (smallB [⟨.slice (some ⟨w1.heap.size, 0, none⟩) 1 1, .slice none 0 0, [(lv, (⟨mz, mn, a, b, refs⟩, .slice ra rn rc))], []⟩] = true → mtSmall ⟨mz, mn, a, b, refs⟩) := Lib.hid small_one_ok
    unfold plC mrC at Ho
    dsimp only at Ho
    generalize smallB [⟨.slice (some ⟨w1.heap.size, 0, none⟩) 1 1, .slice none 0 0, [(lv, (⟨mz, mn, a, b, refs⟩, .slice ra rn rc))], []⟩] = sb at *
    have HB1 := Lib.hid HB
    clear hb Hs HA HP Hq Hi HB
    cases sb with
    | false =>
      go_wp2_with fail
      refine Ho.out.mono ?_
      rintro e w2 ⟨rfl, hb⟩
      have Hb2 := Lib.hid (Hb1.out.trans ((HB1.out.trans (hb.mono HB1.out.size)).mono Hb1.out.size))
      clear hb
      go_wp2_with fail
      refine (awake15_any _).mono ?_
      rintro e w3 ⟨rfl, hb3⟩
      have Hb3 := Lib.hid (Hb2.out.trans (hb3.mono Hb2.out.size))
      clear hb3
      go_wp2
      go_ret
      exact ⟨rfl, Hb3.out⟩
    | true =>
      have Hms := Lib.hid (Hok.out rfl)
      clear Hok
      go_wp2_with fail
      refine Ho.out.mono ?_
      rintro e w2 ⟨rfl, hb⟩
      have hb12 := HB1.out.trans (hb.mono HB1.out.size)
      have Hb2 := Lib.hid (Hb1.out.trans (hb12.mono Hb1.out.size))
      have HP2 := Lib.hid (blk_bels hb12 HP1.out)
      have Hq2 := Lib.hid (Hq1.out.below hb12)
      have Hi2 := Lib.hid (isEd_bel Hi1.out hb12)
      clear hb hb12 HB1 Ho HP1 Hq1 Hi1 f0 f1 f2 f3 f4 f5 f6 f7 f8 f9 Hb1
      go_wp2_with fail
      refine (play_any v l w2 Hi2.out Hsm.out).mono ?_
      rintro e w3 qq
      obtain ⟨U, X, xb, rfl, hxb, hU, hX, heU, heX, hsx, hb3⟩ := qq.out
      have Hb3 := Lib.hid (Hb2.out.trans (hb3.mono Hb2.out.size))
      have HP3 := Lib.hid (blk_bels hb3 HP2.out)
      have Hq3 := Lib.hid (Hq2.out.below hb3)
      obtain ⟨va0, vn0, vc0, va1, vn1, vc1, va2, vn2, vc2, va3, vn3, vc3, hc⟩ := isVn_agg hU
      have HU := Lib.hid hU
      have HeU := Lib.hid heU
      have HPk := Lib.hid (playP_ok Hsm.out l.length (Nat.le_refl _))
      have h40 := (smallB_ed Hsm.out).2
      have HLs := Lib.hid (HPk.out.1.mono (show 10 * l.length ≤ 2000 by omega))
      have Hc := Lib.hid hc
      rw [hc]
      clear hxb hU hX heU heX hsx hb3 hc h40 qq Hb2 HP2 Hq2 Hi2
      have HB := Lib.hid ((Below.refl w3.heap.size w3).alloc (Nat.le_refl _) (.cells #[.slice va0 vn0 vc0, .slice va1 vn1 vc1, .slice va2 vn2 vc2, .slice va3 vn3 vc3] 48))
      have HV := Lib.hid (blk_of_alloc w3 (.cells #[.slice va0 vn0 vc0, .slice va1 vn1 vc1, .slice va2 vn2 vc2, .slice va3 vn3 vc3] 48))
      obtain ⟨vb, hvb⟩ : ∃ vb, vb = w3.heap.size := ⟨_, rfl⟩
      have Hvb := Lib.hid hvb
      rw [← hvb] at HV
      have HP4 := Lib.hid (blk_bels HB.out HP3.out)
      have Hq4 := Lib.hid (Hq3.out.below HB.out)
      have HU4 := Lib.hid (HU.out.below HB.out)
      have Hb4 := Lib.hid (Hb3.out.trans (HB.out.mono Hb3.out.size))
      clear hvb HB HP3 Hq3 HU Hb3
      go_upto_region 6 with fail
      rw [← Hvb.out]
      generalize w3.alloc (.cells #[.slice va0 vn0 vc0, .slice va1 vn1 vc1, .slice va2 vn2 vc2, .slice va3 vn3 vc3] 48) = W3 at *
      clear Hvb
      have HA2 := Lib.hid ((Below.refl W3.heap.size W3).alloc (Nat.le_refl _) (.cells #[.int .i64 lv, .int .i64 mz, .int .i64 mn, .string a.u, .int .i64 a.s, .int .i64 a.k, .string b.u, .int .i64 b.s, .int .i64 b.k, .slice ra rn rc] 78))
      have HPn := Lib.hid (isPl_new W3 lv (⟨mz, mn, a, b, refs⟩, .slice ra rn rc) Hq4.out)
      have f0 := (cell_of_blk HP4.out 0).trans (show _ = some (.int .i64 lv) from rfl)
      have f1 := (cell_of_blk HP4.out 1).trans (show _ = some (.int .i64 mz) from rfl)
      have f2 := (cell_of_blk HP4.out 2).trans (show _ = some (.int .i64 mn) from rfl)
      have f3 := (cell_of_blk HP4.out 3).trans (show _ = some (.string a.u) from rfl)
      have f4 := (cell_of_blk HP4.out 4).trans (show _ = some (.int .i64 a.s) from rfl)
      have f5 := (cell_of_blk HP4.out 5).trans (show _ = some (.int .i64 a.k) from rfl)
      have f6 := (cell_of_blk HP4.out 6).trans (show _ = some (.string b.u) from rfl)
      have f7 := (cell_of_blk HP4.out 7).trans (show _ = some (.int .i64 b.s) from rfl)
      have f8 := (cell_of_blk HP4.out 8).trans (show _ = some (.int .i64 b.k) from rfl)
      have f9 := (cell_of_blk HP4.out 9).trans (show _ = some (.slice ra rn rc) from rfl)
      have cv0 := (cell_of_blk HV.out 0).trans (show _ = some (.slice va0 vn0 vc0) from rfl)
      have cv1 := (cell_of_blk HV.out 1).trans (show _ = some (.slice va1 vn1 vc1) from rfl)
      have cv2 := (cell_of_blk HV.out 2).trans (show _ = some (.slice va2 vn2 vc2) from rfl)
      have cv3 := (cell_of_blk HV.out 3).trans (show _ = some (.slice va3 vn3 vc3) from rfl)
      unfold plC mrC at HPn
      dsimp only at HPn
      cases ha : applyP (playP l l.length) [] [(lv, ⟨mz, mn, a, b, refs⟩)] with
      | none =>
        have Hv := Lib.hid (vapply_no (va := .slice (some ⟨W3.heap.size, 0, none⟩) 1 1) (vd := .slice none 0 0) (HU4.out.below HA2.out) HeU.out HLs.out HPk.out.2 HPn.out (isDz_none _) (by simp) (fun p hp => by rw [List.mem_singleton.1 hp]; exact Hms.out) ha)
        rw [Hc.out] at Hv
        clear ha
        go_wp2_with fail
        refine Hv.out.mono ?_
        rintro e w5 ⟨rfl, hb5⟩
        have Hb5 := Lib.hid (Hb4.out.trans ((HA2.out.trans (hb5.mono HA2.out.size)).mono Hb4.out.size))
        clear hb5 f0 f1 f2 f3 f4 f5 f6 f7 f8 f9 cv0 cv1 cv2 cv3
        unfold Vn.none Vn.cells
        dsimp only
        go_wp2_with fail
        refine (awake15_any _).mono ?_
        rintro e w6 ⟨rfl, hb6⟩
        have Hb6 := Lib.hid ((Hb5.out.alloc Hb5.out.size (.cells #[.slice none 0 0, .slice none 0 0, .slice none 0 0, .slice none 0 0] 48)))
        have Hb7 := Lib.hid (Hb6.out.trans (hb6.mono Hb6.out.size))
        clear hb6
        go_wp2
        go_ret
        exact ⟨rfl, Hb7.out⟩
      | some L1 =>
        have Hv := Lib.hid (vapply_yes (va := .slice (some ⟨W3.heap.size, 0, none⟩) 1 1) (vd := .slice none 0 0) (HU4.out.below HA2.out) HeU.out HLs.out HPk.out.2 HPn.out (isDz_none _) (by simp) (fun p hp => by rw [List.mem_singleton.1 hp]; exact Hms.out) ha)
        rw [Hc.out] at Hv
        have Hun := Lib.hid (undo_plain HPk.out.2 ha)
        have Hok1 := Lib.hid (applyP_small (ps := [(lv, ⟨mz, mn, a, b, refs⟩)]) HPk.out.1 (fun p hp => by rw [List.mem_singleton.1 hp]; exact Hms.out) ha)
        clear ha
        go_wp2_with fail
        refine Hv.out.mono ?_
        rintro e w5 ⟨Y, rfl, hYo, hYe, hb5⟩
        have hb35 := HA2.out.trans (hb5.mono HA2.out.size)
        have Hb5 := Lib.hid (Hb4.out.trans (hb35.mono Hb4.out.size))
        have HP5 := Lib.hid (blk_bels hb35 HP4.out)
        have HV5 := Lib.hid (blk_bels hb35 HV.out)
        have HU5 := Lib.hid (HU4.out.below hb35)
        obtain ⟨wa0, wn0, wc0, wa1, wn1, wc1, wa2, wn2, wc2, wa3, wn3, wc3, hcy⟩ := isVn_agg hYo.isVn
        have HY5 := Lib.hid hYo.isVn
        have HYe := Lib.hid hYe
        have Hcy := Lib.hid hcy
        rw [hcy]
        clear hb5 hb35 hYo hYe hcy Hv HA2 HPn f0 f1 f2 f3 f4 f5 f6 f7 f8 f9 cv0 cv1 cv2 cv3 HP4 HV HU4 Hb4 Hq4
        have HB := Lib.hid ((Below.refl w5.heap.size w5).alloc (Nat.le_refl _) (.cells #[.slice wa0 wn0 wc0, .slice wa1 wn1 wc1, .slice wa2 wn2 wc2, .slice wa3 wn3 wc3] 48))
        have HW := Lib.hid (blk_of_alloc w5 (.cells #[.slice wa0 wn0 wc0, .slice wa1 wn1 wc1, .slice wa2 wn2 wc2, .slice wa3 wn3 wc3] 48))
        obtain ⟨wb, hwb⟩ : ∃ wb, wb = w5.heap.size := ⟨_, rfl⟩
        have Hwb := Lib.hid hwb
        rw [← hwb] at HW
        have HP6 := Lib.hid (blk_bels HB.out HP5.out)
        have HV6 := Lib.hid (blk_bels HB.out HV5.out)
        have HU6 := Lib.hid (HU5.out.below HB.out)
        have HY6 := Lib.hid (HY5.out.below HB.out)
        have Hb6 := Lib.hid (Hb5.out.trans (HB.out.mono Hb5.out.size))
        clear hwb HB HP5 HV5 HU5 HY5 Hb5
        go_upto_region 9 with fail
        rw [← Hwb.out]
        generalize w5.alloc (.cells #[.slice wa0 wn0 wc0, .slice wa1 wn1 wc1, .slice wa2 wn2 wc2, .slice wa3 wn3 wc3] 48) = W5 at *
        clear Hwb
        have cz := (cell_of_blk HP6.out 1).trans (show _ = some (.int .i64 mz) from rfl)
        have cw0 := (cell_of_blk HW.out 0).trans (show _ = some (.slice wa0 wn0 wc0) from rfl)
        have cw1 := (cell_of_blk HW.out 1).trans (show _ = some (.slice wa1 wn1 wc1) from rfl)
        have cw2 := (cell_of_blk HW.out 2).trans (show _ = some (.slice wa2 wn2 wc2) from rfl)
        have cw3 := (cell_of_blk HW.out 3).trans (show _ = some (.slice wa3 wn3 wc3) from rfl)
        obtain ⟨n, i, hln, hn4, hhas, hoth, hlen, L2, ha2, hL2⟩ := Hun.out.ex
        have HA2 := Lib.hid ((Below.refl W5.heap.size W5).alloc (Nat.le_refl _) (.cells #[.int .i64 mz] 3))
        have Hv := Lib.hid (vapply_yes (va := .slice none 0 0) (vd := .slice (some ⟨W5.heap.size, 0, none⟩) 1 1) (ps := []) (HY6.out.below HA2.out) HYe.out (Hok1.out.1.mono (show 10 * l.length + 1 ≤ 2000 by have := (smallB_ed Hsm.out).2; omega)) Hok1.out.2 (isPl_none _) (isDz_new W5 mz) (by decide) (fun p hp => by cases hp) ha2)
        rw [Hcy.out] at Hv
        have Hln := Lib.hid hln
        have Hhas := Lib.hid hhas
        have Hoth := Lib.hid hoth
        have Hlen := Lib.hid hlen
        have HL2 := Lib.hid hL2
        clear hln hhas hoth hlen ha2 hL2 Hun
        go_wp2_with fail
        refine Hv.out.mono ?_
        rintro e w7 ⟨Z, rfl, hZo, hZe, hb7⟩
        have hb57 := HA2.out.trans (hb7.mono HA2.out.size)
        have Hb7 := Lib.hid (Hb6.out.trans (hb57.mono Hb6.out.size))
        have HP7 := Lib.hid (blk_bels hb57 HP6.out)
        have HV7 := Lib.hid (blk_bels hb57 HV6.out)
        have HW7 := Lib.hid (blk_bels hb57 HW.out)
        have HU7 := Lib.hid (HU6.out.below hb57)
        have HY7 := Lib.hid (HY6.out.below hb57)
        obtain ⟨ua0, un0, uc0, ua1, un1, uc1, ua2, un2, uc2, ua3, un3, uc3, hcz⟩ := isVn_agg hZo.isVn
        have HZ7 := Lib.hid hZo.isVn
        have HZe := Lib.hid (LvE.trans hZe HL2.out)
        have Hcz := Lib.hid hcz
        rw [hcz]
        clear hb7 hb57 hZo hZe hcz Hv HA2 cz cw0 cw1 cw2 cw3 HP6 HV6 HW HU6 HY6 Hb6
        have HB := Lib.hid ((Below.refl w7.heap.size w7).alloc (Nat.le_refl _) (.cells #[.slice ua0 un0 uc0, .slice ua1 un1 uc1, .slice ua2 un2 uc2, .slice ua3 un3 uc3] 48))
        have HU' := Lib.hid (blk_of_alloc w7 (.cells #[.slice ua0 un0 uc0, .slice ua1 un1 uc1, .slice ua2 un2 uc2, .slice ua3 un3 uc3] 48))
        obtain ⟨ub, hub⟩ : ∃ ub, ub = w7.heap.size := ⟨_, rfl⟩
        have Hub := Lib.hid hub
        rw [← hub] at HU'
        have HP8 := Lib.hid (blk_bels HB.out HP7.out)
        have HV8 := Lib.hid (blk_bels HB.out HV7.out)
        have HW8 := Lib.hid (blk_bels HB.out HW7.out)
        have HU8 := Lib.hid (HU7.out.below HB.out)
        have HY8 := Lib.hid (HY7.out.below HB.out)
        have HZ8 := Lib.hid (HZ7.out.below HB.out)
        have Hb8 := Lib.hid (Hb7.out.trans (HB.out.mono Hb7.out.size))
        clear hub HB HP7 HV7 HW7 HU7 HY7 HZ7 Hb7
        go_upto_region 10 with fail
        rw [← Hub.out]
        generalize w7.alloc (.cells #[.slice ua0 un0 uc0, .slice ua1 un1 uc1, .slice ua2 un2 uc2, .slice ua3 un3 uc3] 48) = W7 at *
        clear Hub
        have cz := (cell_of_blk HP8.out 1).trans (show _ = some (.int .i64 mz) from rfl)
        have cw0 := (cell_of_blk HW8.out 0).trans (show _ = some (.slice wa0 wn0 wc0) from rfl)
        have cw1 := (cell_of_blk HW8.out 1).trans (show _ = some (.slice wa1 wn1 wc1) from rfl)
        have cw2 := (cell_of_blk HW8.out 2).trans (show _ = some (.slice wa2 wn2 wc2) from rfl)
        have cw3 := (cell_of_blk HW8.out 3).trans (show _ = some (.slice wa3 wn3 wc3) from rfl)
        have Hh := Lib.hid (has_yes (V := Y) HY8.out (hasT_of HYe.out Hhas.out))
        rw [Hcy.out] at Hh
        go_wp2_with fail
        refine Hh.out.mono ?_
        rintro e W6 ⟨rfl, hb9⟩
        clear cz cw0 cw1 cw2 cw3
        have hP := blk_bels hb9 HP8.out
        have hV := blk_bels hb9 HV8.out
        have hW := blk_bels hb9 HW8.out
        have hU := blk_bels hb9 HU'.out
        have Hb6 := Lib.hid (Hb8.out.trans (hb9.mono Hb8.out.size))
        obtain ⟨N, hN⟩ : ∃ N, (tabs U.l 4).length = N := ⟨_, rfl⟩
        have hT := lvS_tabs HPk.out.1 HeU.out
        have hT1 := lvS_tabs Hok1.out.1 HYe.out
        have h40 := (smallB_ed Hsm.out).2
        have hN1 : (tabs Y.l 4).length = N + 1 := by rw [← hN]; exact undo_tabs HeU.out HYe.out hn4 Hoth.out Hlen.out
        have hNb : N ≤ 100000 := by have := hT.1; omega
        have iU := HU8.out.below hb9
        have iY := HY8.out.below hb9
        have iZ := HZ8.out.below hb9
        have HQ1 := Lib.hid (fun (A : World) (hA : Below W6.heap.size W6 A) => vequal_any Z U 4 A (iZ.below hA) (iU.below hA) (Nat.le_refl _) (fun k hk => lvE_lv HZe.out HeU.out hk) (fun q => absurd q (by omega)))
        have HQ2 := Lib.hid (fun (A : World) (hA : Below W6.heap.size W6 A) => vequal_any U Z 4 A (iU.below hA) (iZ.below hA) (Nat.le_refl _) (fun k hk => lvE_lv HeU.out HZe.out hk) (fun q => absurd q (by omega)))
        have HQ3 := Lib.hid (fun (A : World) (hA : Below W6.heap.size W6 A) => vequal_any Y U n A (iY.below hA) (iU.below hA) (by omega) (fun k hk => by rw [show (Y.l k).map (·.1) = _ from HYe.out k (by omega), Hoth.out k (by omega)]; exact (HeU.out k (by omega)).symm) (fun _ => by rw [lvE_len HYe.out hn4, lvE_len HeU.out hn4, Hlen.out]; omega))
        rw [decide_eq_true rfl] at HQ1 HQ2
        rw [decide_eq_false (show ¬ n = 4 by omega)] at HQ3
        have HT1 := Lib.hid (fun (A : World) (hA : Below W6.heap.size W6 A) => tables_num Y A (iY.below hA) (by omega) (fun p hp => by have := (hT1.2 p hp).1; omega) (N + 1) hN1)
        have HT2 := Lib.hid (fun (A : World) (hA : Below W6.heap.size W6 A) => tables_num U A (iU.below hA) (by omega) (fun p hp => by have := (hT.2 p hp).1; omega) N hN)
        rw [Hcz.out, Hc.out] at HQ1 HQ2
        rw [Hcy.out, Hc.out] at HQ3
        rw [Hcy.out] at HT1
        rw [Hc.out] at HT2
        have cv0 := (cell_of_blk hV 0).trans (show _ = some (.slice va0 vn0 vc0) from rfl)
        have cv1 := (cell_of_blk hV 1).trans (show _ = some (.slice va1 vn1 vc1) from rfl)
        have cv2 := (cell_of_blk hV 2).trans (show _ = some (.slice va2 vn2 vc2) from rfl)
        have cv3 := (cell_of_blk hV 3).trans (show _ = some (.slice va3 vn3 vc3) from rfl)
        have cw0 := (cell_of_blk hW 0).trans (show _ = some (.slice wa0 wn0 wc0) from rfl)
        have cw1 := (cell_of_blk hW 1).trans (show _ = some (.slice wa1 wn1 wc1) from rfl)
        have cw2 := (cell_of_blk hW 2).trans (show _ = some (.slice wa2 wn2 wc2) from rfl)
        have cw3 := (cell_of_blk hW 3).trans (show _ = some (.slice wa3 wn3 wc3) from rfl)
        have cu0 := (cell_of_blk hU 0).trans (show _ = some (.slice ua0 un0 uc0) from rfl)
        have cu1 := (cell_of_blk hU 1).trans (show _ = some (.slice ua1 un1 uc1) from rfl)
        have cu2 := (cell_of_blk hU 2).trans (show _ = some (.slice ua2 un2 uc2) from rfl)
        have cu3 := (cell_of_blk hU 3).trans (show _ = some (.slice ua3 un3 uc3) from rfl)
        have cp0 := (cell_of_blk hP 0).trans (show _ = some (.int .i64 lv) from rfl)
        rw [Hln.out] at cp0
        have hwr : IntKind.i64.wrap ((N : Int) + 1) = (N : Int) + 1 := IntWalk.i64_in _ (by omega)
        clear hP hV hW hU hN hT hT1 h40 hN1 iU iY iZ hb9 Hh HP8 HV8 HW8 HU' HU8 HY8 HZ8 Hb8 HYe HeU HZe Hhas Hoth Hlen HL2 Hc Hcy Hcz Hms HPk HLs Hok1
        go_wp2_with fail
        refine wp_region_held_drew (S := fun V' => Hid (Below W6.heap.size W6 V')) (by kernel_rfl) (Lib.hid ((Below.refl _ _).drew)) (fun hS0 => ?_)
        refine wpAnyH_take (i := 0) (oi := { dst := some 63, op := Op.move (Operand.tmp 11), type := 29, pos := "law.go:192", after := #[], guard := none }) (v := ?_) rfl (by kernel_rfl) (by kernel_rfl) (by kernel_rfl) (fun _ _ _ h => h) (Or.inl ⟨by rfl, ?hy52⟩) hS0 ?_
        case hy52 => (intro V hSw; (try dsimp only at hSw); clear hSw; go_simp; try with_reducible rfl)
        try simp only [Act.put, List.setIfInBounds_toArray, List.set_cons_zero, List.set_cons_succ]
        refine wpAnyH_take (i := 1) (oi := { dst := some 64, op := Op.binOp BinOp.eql 29 (Operand.tmp 63) (Operand.const (Value.int IntKind.i64 0)) 29, type := 4, pos := "law.go:192", after := #[{ on := 0, ground := Ground.data }], guard := none }) (v := ?_) rfl (by kernel_rfl) (by kernel_rfl) (by kernel_rfl) (fun _ _ _ h => h) (Or.inl ⟨by rfl, ?hy53⟩) hS0 ?_
        case hy53 => (intro V hSw; (try dsimp only at hSw); clear hSw; go_simp; try with_reducible rfl)
        try simp only [Act.put, List.setIfInBounds_toArray, List.set_cons_zero, List.set_cons_succ]
        refine wpAnyH_take (i := 2) (oi := { dst := some 65, op := Op.move (Operand.tmp 64), type := 4, pos := "law.go:192", after := #[{ on := 1, ground := Ground.data }], guard := none }) (v := ?_) rfl (by kernel_rfl) (by kernel_rfl) (by kernel_rfl) (fun _ _ _ h => h) (Or.inl ⟨by rfl, ?hy54⟩) hS0 ?_
        case hy54 => (intro V hSw; (try dsimp only at hSw); clear hSw; go_simp; try with_reducible rfl)
        try simp only [Act.put, List.setIfInBounds_toArray, List.set_cons_zero, List.set_cons_succ]
        refine wpAnyH_take (i := 3) (oi := { dst := some 66, op := Op.load 48 (Operand.tmp 10), type := 48, pos := "law.go:192", after := #[{ on := 2, ground := Ground.guard }], guard := some (2, true) }) (v := ?_) rfl (by kernel_rfl) (by kernel_rfl) (by kernel_rfl) (fun _ _ _ h => h) (Or.inl ⟨by rfl, ?hy55⟩) hS0 ?_
        case hy55 => (intro V hSw; (try dsimp only at hSw); have q0 := grow_cell hSw.out (block_lt_of_cell cv0) cv0; have q1 := grow_cell hSw.out (block_lt_of_cell cv1) cv1; have q2 := grow_cell hSw.out (block_lt_of_cell cv2) cv2; have q3 := grow_cell hSw.out (block_lt_of_cell cv3) cv3; have q4 := grow_cell hSw.out (block_lt_of_cell cw0) cw0; have q5 := grow_cell hSw.out (block_lt_of_cell cw1) cw1; have q6 := grow_cell hSw.out (block_lt_of_cell cw2) cw2; have q7 := grow_cell hSw.out (block_lt_of_cell cw3) cw3; have q8 := grow_cell hSw.out (block_lt_of_cell cu0) cu0; have q9 := grow_cell hSw.out (block_lt_of_cell cu1) cu1; have q10 := grow_cell hSw.out (block_lt_of_cell cu2) cu2; have q11 := grow_cell hSw.out (block_lt_of_cell cu3) cu3; have q12 := grow_cell hSw.out (block_lt_of_cell cp0) cp0; clear hSw; go_simp; try with_reducible rfl)
        try simp only [Act.put, List.setIfInBounds_toArray, List.set_cons_zero, List.set_cons_succ]
        refine wpAnyH_take (i := 4) (oi := { dst := some 67, op := Op.load 48 (Operand.tmp 5), type := 48, pos := "law.go:192", after := #[{ on := 2, ground := Ground.guard }], guard := some (2, true) }) (v := ?_) rfl (by kernel_rfl) (by kernel_rfl) (by kernel_rfl) (fun _ _ _ h => h) (Or.inl ⟨by rfl, ?hy56⟩) hS0 ?_
        case hy56 => (intro V hSw; (try dsimp only at hSw); have q0 := grow_cell hSw.out (block_lt_of_cell cv0) cv0; have q1 := grow_cell hSw.out (block_lt_of_cell cv1) cv1; have q2 := grow_cell hSw.out (block_lt_of_cell cv2) cv2; have q3 := grow_cell hSw.out (block_lt_of_cell cv3) cv3; have q4 := grow_cell hSw.out (block_lt_of_cell cw0) cw0; have q5 := grow_cell hSw.out (block_lt_of_cell cw1) cw1; have q6 := grow_cell hSw.out (block_lt_of_cell cw2) cw2; have q7 := grow_cell hSw.out (block_lt_of_cell cw3) cw3; have q8 := grow_cell hSw.out (block_lt_of_cell cu0) cu0; have q9 := grow_cell hSw.out (block_lt_of_cell cu1) cu1; have q10 := grow_cell hSw.out (block_lt_of_cell cu2) cu2; have q11 := grow_cell hSw.out (block_lt_of_cell cu3) cu3; have q12 := grow_cell hSw.out (block_lt_of_cell cp0) cp0; clear hSw; go_simp; try with_reducible rfl)
        try simp only [Act.put, List.setIfInBounds_toArray, List.set_cons_zero, List.set_cons_succ]
        refine wpAnyH_ready (rs := [5]) (by kernel_rfl) (by simp) (AllReadyH.cons rfl (fun K hK => ?_) AllReadyH.nil)
        go_simp
        refine (HQ1.out _ hS0.out).mono ?_
        rintro e wv57 ⟨rfl, hv57⟩
        have hS57 := Lib.hid (hS0.out.trans (hv57.mono hS0.out.size))
        clear hv57
        refine hK.out _ _ hS57 (fun _ => ?_)
        clear hK K
        try simp only [Act.put, List.setIfInBounds_toArray, List.set_cons_zero, List.set_cons_succ]
        refine wpAnyH_take (i := 6) (oi := { dst := some 69, op := Op.pick (Operand.tmp 65) (Operand.tmp 68) (Operand.const (Value.bool false)), type := 4, pos := "law.go:192", after := #[{ on := 2, ground := Ground.data }, { on := 5, ground := Ground.data }], guard := none }) (v := ?_) rfl (by kernel_rfl) (by kernel_rfl) (by kernel_rfl) (fun _ _ _ h => h) (Or.inl ⟨by rfl, ?hy58⟩) hS57 ?_
        case hy58 => (intro V hSw; (try dsimp only at hSw); clear hSw; go_simp; try with_reducible rfl)
        try simp only [Act.put, List.setIfInBounds_toArray, List.set_cons_zero, List.set_cons_succ]
        refine wpAnyH_take (i := 7) (oi := { dst := some 70, op := Op.move (Operand.tmp 69), type := 4, pos := "law.go:192", after := #[{ on := 6, ground := Ground.data }, { on := 5, ground := Ground.chain }], guard := none }) (v := ?_) rfl (by kernel_rfl) (by kernel_rfl) (by kernel_rfl) (fun _ _ _ h => h) (Or.inl ⟨by rfl, ?hy59⟩) hS57 ?_
        case hy59 => (intro V hSw; (try dsimp only at hSw); clear hSw; go_simp; try with_reducible rfl)
        try simp only [Act.put, List.setIfInBounds_toArray, List.set_cons_zero, List.set_cons_succ]
        refine wpAnyH_take (i := 8) (oi := { dst := some 71, op := Op.load 48 (Operand.tmp 5), type := 48, pos := "law.go:192", after := #[{ on := 7, ground := Ground.guard }], guard := some (7, true) }) (v := ?_) rfl (by kernel_rfl) (by kernel_rfl) (by kernel_rfl) (fun _ _ _ h => h) (Or.inl ⟨by rfl, ?hy60⟩) hS57 ?_
        case hy60 => (intro V hSw; (try dsimp only at hSw); have q0 := grow_cell hSw.out (block_lt_of_cell cv0) cv0; have q1 := grow_cell hSw.out (block_lt_of_cell cv1) cv1; have q2 := grow_cell hSw.out (block_lt_of_cell cv2) cv2; have q3 := grow_cell hSw.out (block_lt_of_cell cv3) cv3; have q4 := grow_cell hSw.out (block_lt_of_cell cw0) cw0; have q5 := grow_cell hSw.out (block_lt_of_cell cw1) cw1; have q6 := grow_cell hSw.out (block_lt_of_cell cw2) cw2; have q7 := grow_cell hSw.out (block_lt_of_cell cw3) cw3; have q8 := grow_cell hSw.out (block_lt_of_cell cu0) cu0; have q9 := grow_cell hSw.out (block_lt_of_cell cu1) cu1; have q10 := grow_cell hSw.out (block_lt_of_cell cu2) cu2; have q11 := grow_cell hSw.out (block_lt_of_cell cu3) cu3; have q12 := grow_cell hSw.out (block_lt_of_cell cp0) cp0; clear hSw; go_simp; try with_reducible rfl)
        try simp only [Act.put, List.setIfInBounds_toArray, List.set_cons_zero, List.set_cons_succ]
        refine wpAnyH_take (i := 9) (oi := { dst := some 72, op := Op.load 48 (Operand.tmp 10), type := 48, pos := "law.go:192", after := #[{ on := 7, ground := Ground.guard }], guard := some (7, true) }) (v := ?_) rfl (by kernel_rfl) (by kernel_rfl) (by kernel_rfl) (fun _ _ _ h => h) (Or.inl ⟨by rfl, ?hy61⟩) hS57 ?_
        case hy61 => (intro V hSw; (try dsimp only at hSw); have q0 := grow_cell hSw.out (block_lt_of_cell cv0) cv0; have q1 := grow_cell hSw.out (block_lt_of_cell cv1) cv1; have q2 := grow_cell hSw.out (block_lt_of_cell cv2) cv2; have q3 := grow_cell hSw.out (block_lt_of_cell cv3) cv3; have q4 := grow_cell hSw.out (block_lt_of_cell cw0) cw0; have q5 := grow_cell hSw.out (block_lt_of_cell cw1) cw1; have q6 := grow_cell hSw.out (block_lt_of_cell cw2) cw2; have q7 := grow_cell hSw.out (block_lt_of_cell cw3) cw3; have q8 := grow_cell hSw.out (block_lt_of_cell cu0) cu0; have q9 := grow_cell hSw.out (block_lt_of_cell cu1) cu1; have q10 := grow_cell hSw.out (block_lt_of_cell cu2) cu2; have q11 := grow_cell hSw.out (block_lt_of_cell cu3) cu3; have q12 := grow_cell hSw.out (block_lt_of_cell cp0) cp0; clear hSw; go_simp; try with_reducible rfl)
        try simp only [Act.put, List.setIfInBounds_toArray, List.set_cons_zero, List.set_cons_succ]
        refine wpAnyH_ready (rs := [10]) (by kernel_rfl) (by simp) (AllReadyH.cons rfl (fun K hK => ?_) AllReadyH.nil)
        go_simp
        refine (HQ2.out _ hS57.out).mono ?_
        rintro e wv62 ⟨rfl, hv62⟩
        have hS62 := Lib.hid (hS57.out.trans (hv62.mono hS57.out.size))
        clear hv62
        refine hK.out _ _ hS62 (fun _ => ?_)
        clear hK K
        try simp only [Act.put, List.setIfInBounds_toArray, List.set_cons_zero, List.set_cons_succ]
        refine wpAnyH_take (i := 11) (oi := { dst := some 74, op := Op.pick (Operand.tmp 70) (Operand.tmp 73) (Operand.const (Value.bool false)), type := 4, pos := "law.go:192", after := #[{ on := 7, ground := Ground.data }, { on := 10, ground := Ground.data }], guard := none }) (v := ?_) rfl (by kernel_rfl) (by kernel_rfl) (by kernel_rfl) (fun _ _ _ h => h) (Or.inl ⟨by rfl, ?hy63⟩) hS62 ?_
        case hy63 => (intro V hSw; (try dsimp only at hSw); clear hSw; go_simp; try with_reducible rfl)
        try simp only [Act.put, List.setIfInBounds_toArray, List.set_cons_zero, List.set_cons_succ]
        refine wpAnyH_take (i := 12) (oi := { dst := some 75, op := Op.move (Operand.tmp 74), type := 4, pos := "law.go:192", after := #[{ on := 11, ground := Ground.data }, { on := 10, ground := Ground.chain }], guard := none }) (v := ?_) rfl (by kernel_rfl) (by kernel_rfl) (by kernel_rfl) (fun _ _ _ h => h) (Or.inl ⟨by rfl, ?hy64⟩) hS62 ?_
        case hy64 => (intro V hSw; (try dsimp only at hSw); clear hSw; go_simp; try with_reducible rfl)
        try simp only [Act.put, List.setIfInBounds_toArray, List.set_cons_zero, List.set_cons_succ]
        refine wpAnyH_take (i := 13) (oi := { dst := some 76, op := Op.load 48 (Operand.tmp 8), type := 48, pos := "law.go:192", after := #[{ on := 12, ground := Ground.guard }], guard := some (12, true) }) (v := ?_) rfl (by kernel_rfl) (by kernel_rfl) (by kernel_rfl) (fun _ _ _ h => h) (Or.inl ⟨by rfl, ?hy65⟩) hS62 ?_
        case hy65 => (intro V hSw; (try dsimp only at hSw); have q0 := grow_cell hSw.out (block_lt_of_cell cv0) cv0; have q1 := grow_cell hSw.out (block_lt_of_cell cv1) cv1; have q2 := grow_cell hSw.out (block_lt_of_cell cv2) cv2; have q3 := grow_cell hSw.out (block_lt_of_cell cv3) cv3; have q4 := grow_cell hSw.out (block_lt_of_cell cw0) cw0; have q5 := grow_cell hSw.out (block_lt_of_cell cw1) cw1; have q6 := grow_cell hSw.out (block_lt_of_cell cw2) cw2; have q7 := grow_cell hSw.out (block_lt_of_cell cw3) cw3; have q8 := grow_cell hSw.out (block_lt_of_cell cu0) cu0; have q9 := grow_cell hSw.out (block_lt_of_cell cu1) cu1; have q10 := grow_cell hSw.out (block_lt_of_cell cu2) cu2; have q11 := grow_cell hSw.out (block_lt_of_cell cu3) cu3; have q12 := grow_cell hSw.out (block_lt_of_cell cp0) cp0; clear hSw; go_simp; try with_reducible rfl)
        try simp only [Act.put, List.setIfInBounds_toArray, List.set_cons_zero, List.set_cons_succ]
        refine wpAnyH_take (i := 14) (oi := { dst := some 77, op := Op.load 48 (Operand.tmp 5), type := 48, pos := "law.go:192", after := #[{ on := 12, ground := Ground.guard }], guard := some (12, true) }) (v := ?_) rfl (by kernel_rfl) (by kernel_rfl) (by kernel_rfl) (fun _ _ _ h => h) (Or.inl ⟨by rfl, ?hy66⟩) hS62 ?_
        case hy66 => (intro V hSw; (try dsimp only at hSw); have q0 := grow_cell hSw.out (block_lt_of_cell cv0) cv0; have q1 := grow_cell hSw.out (block_lt_of_cell cv1) cv1; have q2 := grow_cell hSw.out (block_lt_of_cell cv2) cv2; have q3 := grow_cell hSw.out (block_lt_of_cell cv3) cv3; have q4 := grow_cell hSw.out (block_lt_of_cell cw0) cw0; have q5 := grow_cell hSw.out (block_lt_of_cell cw1) cw1; have q6 := grow_cell hSw.out (block_lt_of_cell cw2) cw2; have q7 := grow_cell hSw.out (block_lt_of_cell cw3) cw3; have q8 := grow_cell hSw.out (block_lt_of_cell cu0) cu0; have q9 := grow_cell hSw.out (block_lt_of_cell cu1) cu1; have q10 := grow_cell hSw.out (block_lt_of_cell cu2) cu2; have q11 := grow_cell hSw.out (block_lt_of_cell cu3) cu3; have q12 := grow_cell hSw.out (block_lt_of_cell cp0) cp0; clear hSw; go_simp; try with_reducible rfl)
        try simp only [Act.put, List.setIfInBounds_toArray, List.set_cons_zero, List.set_cons_succ]
        refine wpAnyH_ready (rs := [15]) (by kernel_rfl) (by simp) (AllReadyH.cons rfl (fun K hK => ?_) AllReadyH.nil)
        go_simp
        refine (HQ3.out _ hS62.out).mono ?_
        rintro e wv67 ⟨rfl, hv67⟩
        have hS67 := Lib.hid (hS62.out.trans (hv67.mono hS62.out.size))
        clear hv67
        refine hK.out _ _ hS67 (fun _ => ?_)
        clear hK K
        try simp only [Act.put, List.setIfInBounds_toArray, List.set_cons_zero, List.set_cons_succ]
        refine wpAnyH_take (i := 16) (oi := { dst := some 79, op := Op.unOp UnOp.not 4 (Operand.tmp 78), type := 4, pos := "law.go:192", after := #[{ on := 15, ground := Ground.data }, { on := 12, ground := Ground.guard }], guard := some (12, true) }) (v := ?_) rfl (by kernel_rfl) (by kernel_rfl) (by kernel_rfl) (fun _ _ _ h => h) (Or.inl ⟨by rfl, ?hy68⟩) hS67 ?_
        case hy68 => (intro V hSw; (try dsimp only at hSw); clear hSw; go_simp; try with_reducible rfl)
        try simp only [Act.put, List.setIfInBounds_toArray, List.set_cons_zero, List.set_cons_succ]
        refine wpAnyH_take (i := 17) (oi := { dst := some 80, op := Op.pick (Operand.tmp 75) (Operand.tmp 79) (Operand.const (Value.bool false)), type := 4, pos := "law.go:192", after := #[{ on := 12, ground := Ground.data }, { on := 16, ground := Ground.data }], guard := none }) (v := ?_) rfl (by kernel_rfl) (by kernel_rfl) (by kernel_rfl) (fun _ _ _ h => h) (Or.inl ⟨by rfl, ?hy69⟩) hS67 ?_
        case hy69 => (intro V hSw; (try dsimp only at hSw); clear hSw; go_simp; try with_reducible rfl)
        try simp only [Act.put, List.setIfInBounds_toArray, List.set_cons_zero, List.set_cons_succ]
        refine wpAnyH_take (i := 18) (oi := { dst := some 81, op := Op.move (Operand.tmp 80), type := 4, pos := "law.go:192", after := #[{ on := 17, ground := Ground.data }, { on := 15, ground := Ground.chain }], guard := none }) (v := ?_) rfl (by kernel_rfl) (by kernel_rfl) (by kernel_rfl) (fun _ _ _ h => h) (Or.inl ⟨by rfl, ?hy70⟩) hS67 ?_
        case hy70 => (intro V hSw; (try dsimp only at hSw); clear hSw; go_simp; try with_reducible rfl)
        try simp only [Act.put, List.setIfInBounds_toArray, List.set_cons_zero, List.set_cons_succ]
        refine wpAnyH_take (i := 19) (oi := { dst := some 82, op := Op.move (Operand.tmp 13), type := 4, pos := "law.go:192", after := #[{ on := 18, ground := Ground.guard }], guard := some (18, true) }) (v := ?_) rfl (by kernel_rfl) (by kernel_rfl) (by kernel_rfl) (fun _ _ _ h => h) (Or.inl ⟨by rfl, ?hy71⟩) hS67 ?_
        case hy71 => (intro V hSw; (try dsimp only at hSw); clear hSw; go_simp; try with_reducible rfl)
        try simp only [Act.put, List.setIfInBounds_toArray, List.set_cons_zero, List.set_cons_succ]
        refine wpAnyH_take (i := 20) (oi := { dst := some 83, op := Op.pick (Operand.tmp 81) (Operand.tmp 82) (Operand.const (Value.bool false)), type := 4, pos := "law.go:192", after := #[{ on := 18, ground := Ground.data }, { on := 19, ground := Ground.data }], guard := none }) (v := ?_) rfl (by kernel_rfl) (by kernel_rfl) (by kernel_rfl) (fun _ _ _ h => h) (Or.inl ⟨by rfl, ?hy72⟩) hS67 ?_
        case hy72 => (intro V hSw; (try dsimp only at hSw); clear hSw; go_simp; try with_reducible rfl)
        try simp only [Act.put, List.setIfInBounds_toArray, List.set_cons_zero, List.set_cons_succ]
        refine wpAnyH_take (i := 21) (oi := { dst := some 84, op := Op.move (Operand.tmp 83), type := 4, pos := "law.go:192", after := #[{ on := 20, ground := Ground.data }, { on := 18, ground := Ground.chain }], guard := none }) (v := ?_) rfl (by kernel_rfl) (by kernel_rfl) (by kernel_rfl) (fun _ _ _ h => h) (Or.inl ⟨by rfl, ?hy73⟩) hS67 ?_
        case hy73 => (intro V hSw; (try dsimp only at hSw); clear hSw; go_simp; try with_reducible rfl)
        try simp only [Act.put, List.setIfInBounds_toArray, List.set_cons_zero, List.set_cons_succ]
        refine wpAnyH_take (i := 22) (oi := { dst := some 85, op := Op.move (Operand.tmp 12), type := 3, pos := "law.go:192", after := #[{ on := 21, ground := Ground.guard }], guard := some (21, true) }) (v := ?_) rfl (by kernel_rfl) (by kernel_rfl) (by kernel_rfl) (fun _ _ _ h => h) (Or.inl ⟨by rfl, ?hy74⟩) hS67 ?_
        case hy74 => (intro V hSw; (try dsimp only at hSw); clear hSw; go_simp; try with_reducible rfl)
        try simp only [Act.put, List.setIfInBounds_toArray, List.set_cons_zero, List.set_cons_succ]
        refine wpAnyH_take (i := 23) (oi := { dst := some 86, op := Op.fieldAddr 78 (Operand.tmp 3) 0, type := 0, pos := "law.go:192", after := #[{ on := 21, ground := Ground.guard }], guard := some (21, true) }) (v := ?_) rfl (by kernel_rfl) (by kernel_rfl) (by kernel_rfl) (fun _ _ _ h => h) (Or.inl ⟨by rfl, ?hy75⟩) hS67 ?_
        case hy75 => (intro V hSw; (try dsimp only at hSw); clear hSw; go_simp; try with_reducible rfl)
        try simp only [Act.put, List.setIfInBounds_toArray, List.set_cons_zero, List.set_cons_succ]
        refine wpAnyH_take (i := 24) (oi := { dst := some 87, op := Op.load 3 (Operand.tmp 86), type := 3, pos := "law.go:192", after := #[{ on := 23, ground := Ground.data }, { on := 21, ground := Ground.guard }], guard := some (21, true) }) (v := ?_) rfl (by kernel_rfl) (by kernel_rfl) (by kernel_rfl) (fun _ _ _ h => h) (Or.inl ⟨by rfl, ?hy76⟩) hS67 ?_
        case hy76 => (intro V hSw; (try dsimp only at hSw); have q0 := grow_cell hSw.out (block_lt_of_cell cv0) cv0; have q1 := grow_cell hSw.out (block_lt_of_cell cv1) cv1; have q2 := grow_cell hSw.out (block_lt_of_cell cv2) cv2; have q3 := grow_cell hSw.out (block_lt_of_cell cv3) cv3; have q4 := grow_cell hSw.out (block_lt_of_cell cw0) cw0; have q5 := grow_cell hSw.out (block_lt_of_cell cw1) cw1; have q6 := grow_cell hSw.out (block_lt_of_cell cw2) cw2; have q7 := grow_cell hSw.out (block_lt_of_cell cw3) cw3; have q8 := grow_cell hSw.out (block_lt_of_cell cu0) cu0; have q9 := grow_cell hSw.out (block_lt_of_cell cu1) cu1; have q10 := grow_cell hSw.out (block_lt_of_cell cu2) cu2; have q11 := grow_cell hSw.out (block_lt_of_cell cu3) cu3; have q12 := grow_cell hSw.out (block_lt_of_cell cp0) cp0; clear hSw; go_simp; try with_reducible rfl)
        try simp only [Act.put, List.setIfInBounds_toArray, List.set_cons_zero, List.set_cons_succ]
        refine wpAnyH_take (i := 25) (oi := { dst := some 88, op := Op.binOp BinOp.eql 3 (Operand.tmp 85) (Operand.tmp 87) 3, type := 4, pos := "law.go:192", after := #[{ on := 22, ground := Ground.data }, { on := 24, ground := Ground.data }, { on := 21, ground := Ground.guard }], guard := some (21, true) }) (v := ?_) rfl (by kernel_rfl) (by kernel_rfl) (by kernel_rfl) (fun _ _ _ h => h) (Or.inl ⟨by rfl, ?hy77⟩) hS67 ?_
        case hy77 => (intro V hSw; (try dsimp only at hSw); clear hSw; go_simp; try with_reducible rfl)
        try simp only [Act.put, List.setIfInBounds_toArray, List.set_cons_zero, List.set_cons_succ]
        refine wpAnyH_take (i := 26) (oi := { dst := some 89, op := Op.pick (Operand.tmp 84) (Operand.tmp 88) (Operand.const (Value.bool false)), type := 4, pos := "law.go:192", after := #[{ on := 21, ground := Ground.data }, { on := 25, ground := Ground.data }], guard := none }) (v := ?_) rfl (by kernel_rfl) (by kernel_rfl) (by kernel_rfl) (fun _ _ _ h => h) (Or.inl ⟨by rfl, ?hy78⟩) hS67 ?_
        case hy78 => (intro V hSw; (try dsimp only at hSw); clear hSw; go_simp; try with_reducible rfl)
        try simp only [Act.put, List.setIfInBounds_toArray, List.set_cons_zero, List.set_cons_succ]
        refine wpAnyH_take (i := 27) (oi := { dst := some 90, op := Op.move (Operand.tmp 89), type := 4, pos := "law.go:192", after := #[{ on := 26, ground := Ground.data }, { on := 21, ground := Ground.chain }], guard := none }) (v := ?_) rfl (by kernel_rfl) (by kernel_rfl) (by kernel_rfl) (fun _ _ _ h => h) (Or.inl ⟨by rfl, ?hy79⟩) hS67 ?_
        case hy79 => (intro V hSw; (try dsimp only at hSw); clear hSw; go_simp; try with_reducible rfl)
        try simp only [Act.put, List.setIfInBounds_toArray, List.set_cons_zero, List.set_cons_succ]
        refine wpAnyH_take (i := 28) (oi := { dst := some 91, op := Op.load 48 (Operand.tmp 8), type := 48, pos := "law.go:192", after := #[{ on := 27, ground := Ground.guard }], guard := some (27, true) }) (v := ?_) rfl (by kernel_rfl) (by kernel_rfl) (by kernel_rfl) (fun _ _ _ h => h) (Or.inl ⟨by rfl, ?hy80⟩) hS67 ?_
        case hy80 => (intro V hSw; (try dsimp only at hSw); have q0 := grow_cell hSw.out (block_lt_of_cell cv0) cv0; have q1 := grow_cell hSw.out (block_lt_of_cell cv1) cv1; have q2 := grow_cell hSw.out (block_lt_of_cell cv2) cv2; have q3 := grow_cell hSw.out (block_lt_of_cell cv3) cv3; have q4 := grow_cell hSw.out (block_lt_of_cell cw0) cw0; have q5 := grow_cell hSw.out (block_lt_of_cell cw1) cw1; have q6 := grow_cell hSw.out (block_lt_of_cell cw2) cw2; have q7 := grow_cell hSw.out (block_lt_of_cell cw3) cw3; have q8 := grow_cell hSw.out (block_lt_of_cell cu0) cu0; have q9 := grow_cell hSw.out (block_lt_of_cell cu1) cu1; have q10 := grow_cell hSw.out (block_lt_of_cell cu2) cu2; have q11 := grow_cell hSw.out (block_lt_of_cell cu3) cu3; have q12 := grow_cell hSw.out (block_lt_of_cell cp0) cp0; clear hSw; go_simp; try with_reducible rfl)
        try simp only [Act.put, List.setIfInBounds_toArray, List.set_cons_zero, List.set_cons_succ]
        refine wpAnyH_take (i := 31) (oi := { dst := some 94, op := Op.load 48 (Operand.tmp 5), type := 48, pos := "law.go:192", after := #[{ on := 27, ground := Ground.guard }], guard := some (27, true) }) (v := ?_) rfl (by kernel_rfl) (by kernel_rfl) (by kernel_rfl) (fun _ _ _ h => h) (Or.inl ⟨by rfl, ?hy81⟩) hS67 ?_
        case hy81 => (intro V hSw; (try dsimp only at hSw); have q0 := grow_cell hSw.out (block_lt_of_cell cv0) cv0; have q1 := grow_cell hSw.out (block_lt_of_cell cv1) cv1; have q2 := grow_cell hSw.out (block_lt_of_cell cv2) cv2; have q3 := grow_cell hSw.out (block_lt_of_cell cv3) cv3; have q4 := grow_cell hSw.out (block_lt_of_cell cw0) cw0; have q5 := grow_cell hSw.out (block_lt_of_cell cw1) cw1; have q6 := grow_cell hSw.out (block_lt_of_cell cw2) cw2; have q7 := grow_cell hSw.out (block_lt_of_cell cw3) cw3; have q8 := grow_cell hSw.out (block_lt_of_cell cu0) cu0; have q9 := grow_cell hSw.out (block_lt_of_cell cu1) cu1; have q10 := grow_cell hSw.out (block_lt_of_cell cu2) cu2; have q11 := grow_cell hSw.out (block_lt_of_cell cu3) cu3; have q12 := grow_cell hSw.out (block_lt_of_cell cp0) cp0; clear hSw; go_simp; try with_reducible rfl)
        try simp only [Act.put, List.setIfInBounds_toArray, List.set_cons_zero, List.set_cons_succ]
        refine wpAnyH_ready (rs := [29]) (by kernel_rfl) (by simp) (AllReadyH.cons rfl (fun K hK => ?_) AllReadyH.nil)
        go_simp
        refine (HT1.out _ hS67.out).mono ?_
        rintro e wv82 ⟨xa82, xc82, rfl, hv82⟩
        have hS82 := Lib.hid (hS67.out.trans (hv82.mono hS67.out.size))
        clear hv82
        refine hK.out _ _ hS82 (fun _ => ?_)
        clear hK K
        try simp only [Act.put, List.setIfInBounds_toArray, List.set_cons_zero, List.set_cons_succ]
        refine wpAnyH_ready (rs := [30, 32]) (by kernel_rfl) (by simp) (AllReadyH.cons rfl (fun K hK => ?_) (AllReadyH.cons rfl (fun K hK => ?_) AllReadyH.nil))
        · go_simp
          refine hK.out _ _ hS82 (fun _ => ?_)
          clear hK K
          try simp only [Act.put, List.setIfInBounds_toArray, List.set_cons_zero, List.set_cons_succ]
          refine wpAnyH_ready (rs := [32]) (by kernel_rfl) (by simp) (AllReadyH.cons rfl (fun K hK => ?_) AllReadyH.nil)
          go_simp
          refine (HT2.out _ hS82.out).mono ?_
          rintro e wv83 ⟨xa83, xc83, rfl, hv83⟩
          have hS83 := Lib.hid (hS82.out.trans (hv83.mono hS82.out.size))
          clear hv83
          refine hK.out _ _ hS83 (fun _ => ?_)
          clear hK K
          try simp only [Act.put, List.setIfInBounds_toArray, List.set_cons_zero, List.set_cons_succ]
          refine wpAnyH_ready (rs := [33]) (by kernel_rfl) (by simp) (AllReadyH.cons rfl (fun K hK => ?_) AllReadyH.nil)
          go_simp
          refine hK.out _ _ hS83 (fun _ => ?_)
          clear hK K
          try simp only [Act.put, List.setIfInBounds_toArray, List.set_cons_zero, List.set_cons_succ]
          refine wpAnyH_take (i := 34) (oi := { dst := some 97, op := Op.binOp BinOp.add 3 (Operand.tmp 96) (Operand.const (Value.int IntKind.i64 1)) 3, type := 3, pos := "law.go:192", after := #[{ on := 33, ground := Ground.data }, { on := 27, ground := Ground.guard }], guard := some (27, true) }) (v := ?_) rfl (by kernel_rfl) (by kernel_rfl) (by kernel_rfl) (fun _ _ _ h => h) (Or.inl ⟨by rfl, ?hy84⟩) hS83 ?_
          case hy84 => (intro V hSw; (try dsimp only at hSw); clear hSw; go_simp; try with_reducible rfl)
          try simp only [Act.put, List.setIfInBounds_toArray, List.set_cons_zero, List.set_cons_succ]
          refine wpAnyH_take (i := 35) (oi := { dst := some 98, op := Op.binOp BinOp.eql 3 (Operand.tmp 93) (Operand.tmp 97) 3, type := 4, pos := "law.go:192", after := #[{ on := 30, ground := Ground.data }, { on := 34, ground := Ground.data }, { on := 27, ground := Ground.guard }], guard := some (27, true) }) (v := ?_) rfl (by kernel_rfl) (by kernel_rfl) (by kernel_rfl) (fun _ _ _ h => h) (Or.inl ⟨by rfl, ?hy85⟩) hS83 ?_
          case hy85 => (intro V hSw; (try dsimp only at hSw); clear hSw; go_simp; try with_reducible rfl)
          try simp only [Act.put, List.setIfInBounds_toArray, List.set_cons_zero, List.set_cons_succ]
          refine wpAnyH_take (i := 36) (oi := { dst := some 99, op := Op.pick (Operand.tmp 90) (Operand.tmp 98) (Operand.const (Value.bool false)), type := 4, pos := "law.go:192", after := #[{ on := 27, ground := Ground.data }, { on := 35, ground := Ground.data }], guard := none }) (v := ?_) rfl (by kernel_rfl) (by kernel_rfl) (by kernel_rfl) (fun _ _ _ h => h) (Or.inl ⟨by rfl, ?hy86⟩) hS83 ?_
          case hy86 => (intro V hSw; (try dsimp only at hSw); clear hSw; go_simp; try with_reducible rfl)
          try simp only [Act.put, List.setIfInBounds_toArray, List.set_cons_zero, List.set_cons_succ]
          refine wpAnyH_take (i := 37) (oi := { dst := some 100, op := Op.move (Operand.tmp 99), type := 4, pos := "law.go:192", after := #[{ on := 36, ground := Ground.data }, { on := 32, ground := Ground.chain }], guard := none }) (v := ?_) rfl (by kernel_rfl) (by kernel_rfl) (by kernel_rfl) (fun _ _ _ h => h) (Or.inl ⟨by rfl, ?hy87⟩) hS83 ?_
          case hy87 => (intro V hSw; (try dsimp only at hSw); clear hSw; go_simp; try with_reducible rfl)
          try simp only [Act.put, List.setIfInBounds_toArray, List.set_cons_zero, List.set_cons_succ]
          refine wpAnyH_ready (rs := [38]) (by kernel_rfl) (by simp) (AllReadyH.cons rfl (fun K hK => ?_) AllReadyH.nil)
          go_simp
          refine (awake15_any _).mono ?_
          rintro e wv88 ⟨rfl, hv88⟩
          have hS88 := Lib.hid (hS83.out.trans (hv88.mono hS83.out.size))
          clear hv88
          refine hK.out _ _ hS88 (fun _ => ?_)
          clear hK K
          try simp only [Act.put, List.setIfInBounds_toArray, List.set_cons_zero, List.set_cons_succ]
          refine wpAnyH_take (i := 39) (oi := { dst := some 102, op := Op.pick (Operand.tmp 100) (Operand.tmp 101) (Operand.const (Value.bool false)), type := 4, pos := "law.go:192", after := #[{ on := 37, ground := Ground.data }, { on := 38, ground := Ground.data }], guard := none }) (v := ?_) rfl (by kernel_rfl) (by kernel_rfl) (by kernel_rfl) (fun _ _ _ h => h) (Or.inl ⟨by rfl, ?hy89⟩) hS88 ?_
          case hy89 => (intro V hSw; (try dsimp only at hSw); clear hSw; go_simp; try with_reducible rfl)
          try simp only [Act.put, List.setIfInBounds_toArray, List.set_cons_zero, List.set_cons_succ]
          refine wpAnyH_ready (rs := [40]) (by kernel_rfl) (by simp) (AllReadyH.cons rfl (fun K hK => ?_) AllReadyH.nil)
          go_simp
          refine hK.out _ _ hS88 (fun _ => ?_)
          clear hK K
          try simp only [Act.put, List.setIfInBounds_toArray, List.set_cons_zero, List.set_cons_succ]
          refine wpAnyH_done (by kernel_rfl) ?_ _
          go_wp2_with fail
          go_ret
          exact ⟨rfl, Hb6.out.trans (hS88.out.mono Hb6.out.size)⟩
        · go_simp
          refine (HT2.out _ hS82.out).mono ?_
          rintro e wv90 ⟨xa90, xc90, rfl, hv90⟩
          have hS90 := Lib.hid (hS82.out.trans (hv90.mono hS82.out.size))
          clear hv90
          refine hK.out _ _ hS90 (fun _ => ?_)
          clear hK K
          try simp only [Act.put, List.setIfInBounds_toArray, List.set_cons_zero, List.set_cons_succ]
          refine wpAnyH_ready (rs := [30, 33]) (by kernel_rfl) (by simp) (AllReadyH.cons rfl (fun K hK => ?_) (AllReadyH.cons rfl (fun K hK => ?_) AllReadyH.nil))
          · go_simp
            refine hK.out _ _ hS90 (fun _ => ?_)
            clear hK K
            try simp only [Act.put, List.setIfInBounds_toArray, List.set_cons_zero, List.set_cons_succ]
            refine wpAnyH_ready (rs := [33]) (by kernel_rfl) (by simp) (AllReadyH.cons rfl (fun K hK => ?_) AllReadyH.nil)
            go_simp
            refine hK.out _ _ hS90 (fun _ => ?_)
            clear hK K
            try simp only [Act.put, List.setIfInBounds_toArray, List.set_cons_zero, List.set_cons_succ]
            refine wpAnyH_take (i := 34) (oi := { dst := some 97, op := Op.binOp BinOp.add 3 (Operand.tmp 96) (Operand.const (Value.int IntKind.i64 1)) 3, type := 3, pos := "law.go:192", after := #[{ on := 33, ground := Ground.data }, { on := 27, ground := Ground.guard }], guard := some (27, true) }) (v := ?_) rfl (by kernel_rfl) (by kernel_rfl) (by kernel_rfl) (fun _ _ _ h => h) (Or.inl ⟨by rfl, ?hy91⟩) hS90 ?_
            case hy91 => (intro V hSw; (try dsimp only at hSw); clear hSw; go_simp; try with_reducible rfl)
            try simp only [Act.put, List.setIfInBounds_toArray, List.set_cons_zero, List.set_cons_succ]
            refine wpAnyH_take (i := 35) (oi := { dst := some 98, op := Op.binOp BinOp.eql 3 (Operand.tmp 93) (Operand.tmp 97) 3, type := 4, pos := "law.go:192", after := #[{ on := 30, ground := Ground.data }, { on := 34, ground := Ground.data }, { on := 27, ground := Ground.guard }], guard := some (27, true) }) (v := ?_) rfl (by kernel_rfl) (by kernel_rfl) (by kernel_rfl) (fun _ _ _ h => h) (Or.inl ⟨by rfl, ?hy92⟩) hS90 ?_
            case hy92 => (intro V hSw; (try dsimp only at hSw); clear hSw; go_simp; try with_reducible rfl)
            try simp only [Act.put, List.setIfInBounds_toArray, List.set_cons_zero, List.set_cons_succ]
            refine wpAnyH_take (i := 36) (oi := { dst := some 99, op := Op.pick (Operand.tmp 90) (Operand.tmp 98) (Operand.const (Value.bool false)), type := 4, pos := "law.go:192", after := #[{ on := 27, ground := Ground.data }, { on := 35, ground := Ground.data }], guard := none }) (v := ?_) rfl (by kernel_rfl) (by kernel_rfl) (by kernel_rfl) (fun _ _ _ h => h) (Or.inl ⟨by rfl, ?hy93⟩) hS90 ?_
            case hy93 => (intro V hSw; (try dsimp only at hSw); clear hSw; go_simp; try with_reducible rfl)
            try simp only [Act.put, List.setIfInBounds_toArray, List.set_cons_zero, List.set_cons_succ]
            refine wpAnyH_take (i := 37) (oi := { dst := some 100, op := Op.move (Operand.tmp 99), type := 4, pos := "law.go:192", after := #[{ on := 36, ground := Ground.data }, { on := 32, ground := Ground.chain }], guard := none }) (v := ?_) rfl (by kernel_rfl) (by kernel_rfl) (by kernel_rfl) (fun _ _ _ h => h) (Or.inl ⟨by rfl, ?hy94⟩) hS90 ?_
            case hy94 => (intro V hSw; (try dsimp only at hSw); clear hSw; go_simp; try with_reducible rfl)
            try simp only [Act.put, List.setIfInBounds_toArray, List.set_cons_zero, List.set_cons_succ]
            refine wpAnyH_ready (rs := [38]) (by kernel_rfl) (by simp) (AllReadyH.cons rfl (fun K hK => ?_) AllReadyH.nil)
            go_simp
            refine (awake15_any _).mono ?_
            rintro e wv95 ⟨rfl, hv95⟩
            have hS95 := Lib.hid (hS90.out.trans (hv95.mono hS90.out.size))
            clear hv95
            refine hK.out _ _ hS95 (fun _ => ?_)
            clear hK K
            try simp only [Act.put, List.setIfInBounds_toArray, List.set_cons_zero, List.set_cons_succ]
            refine wpAnyH_take (i := 39) (oi := { dst := some 102, op := Op.pick (Operand.tmp 100) (Operand.tmp 101) (Operand.const (Value.bool false)), type := 4, pos := "law.go:192", after := #[{ on := 37, ground := Ground.data }, { on := 38, ground := Ground.data }], guard := none }) (v := ?_) rfl (by kernel_rfl) (by kernel_rfl) (by kernel_rfl) (fun _ _ _ h => h) (Or.inl ⟨by rfl, ?hy96⟩) hS95 ?_
            case hy96 => (intro V hSw; (try dsimp only at hSw); clear hSw; go_simp; try with_reducible rfl)
            try simp only [Act.put, List.setIfInBounds_toArray, List.set_cons_zero, List.set_cons_succ]
            refine wpAnyH_ready (rs := [40]) (by kernel_rfl) (by simp) (AllReadyH.cons rfl (fun K hK => ?_) AllReadyH.nil)
            go_simp
            refine hK.out _ _ hS95 (fun _ => ?_)
            clear hK K
            try simp only [Act.put, List.setIfInBounds_toArray, List.set_cons_zero, List.set_cons_succ]
            refine wpAnyH_done (by kernel_rfl) ?_ _
            go_wp2_with fail
            go_ret
            exact ⟨rfl, Hb6.out.trans (hS95.out.mono Hb6.out.size)⟩
          · go_simp
            refine hK.out _ _ hS90 (fun _ => ?_)
            clear hK K
            try simp only [Act.put, List.setIfInBounds_toArray, List.set_cons_zero, List.set_cons_succ]
            refine wpAnyH_take (i := 34) (oi := { dst := some 97, op := Op.binOp BinOp.add 3 (Operand.tmp 96) (Operand.const (Value.int IntKind.i64 1)) 3, type := 3, pos := "law.go:192", after := #[{ on := 33, ground := Ground.data }, { on := 27, ground := Ground.guard }], guard := some (27, true) }) (v := ?_) rfl (by kernel_rfl) (by kernel_rfl) (by kernel_rfl) (fun _ _ _ h => h) (Or.inl ⟨by rfl, ?hy97⟩) hS90 ?_
            case hy97 => (intro V hSw; (try dsimp only at hSw); clear hSw; go_simp; try with_reducible rfl)
            try simp only [Act.put, List.setIfInBounds_toArray, List.set_cons_zero, List.set_cons_succ]
            refine wpAnyH_ready (rs := [30]) (by kernel_rfl) (by simp) (AllReadyH.cons rfl (fun K hK => ?_) AllReadyH.nil)
            go_simp
            refine hK.out _ _ hS90 (fun _ => ?_)
            clear hK K
            try simp only [Act.put, List.setIfInBounds_toArray, List.set_cons_zero, List.set_cons_succ]
            refine wpAnyH_take (i := 35) (oi := { dst := some 98, op := Op.binOp BinOp.eql 3 (Operand.tmp 93) (Operand.tmp 97) 3, type := 4, pos := "law.go:192", after := #[{ on := 30, ground := Ground.data }, { on := 34, ground := Ground.data }, { on := 27, ground := Ground.guard }], guard := some (27, true) }) (v := ?_) rfl (by kernel_rfl) (by kernel_rfl) (by kernel_rfl) (fun _ _ _ h => h) (Or.inl ⟨by rfl, ?hy98⟩) hS90 ?_
            case hy98 => (intro V hSw; (try dsimp only at hSw); clear hSw; go_simp; try with_reducible rfl)
            try simp only [Act.put, List.setIfInBounds_toArray, List.set_cons_zero, List.set_cons_succ]
            refine wpAnyH_take (i := 36) (oi := { dst := some 99, op := Op.pick (Operand.tmp 90) (Operand.tmp 98) (Operand.const (Value.bool false)), type := 4, pos := "law.go:192", after := #[{ on := 27, ground := Ground.data }, { on := 35, ground := Ground.data }], guard := none }) (v := ?_) rfl (by kernel_rfl) (by kernel_rfl) (by kernel_rfl) (fun _ _ _ h => h) (Or.inl ⟨by rfl, ?hy99⟩) hS90 ?_
            case hy99 => (intro V hSw; (try dsimp only at hSw); clear hSw; go_simp; try with_reducible rfl)
            try simp only [Act.put, List.setIfInBounds_toArray, List.set_cons_zero, List.set_cons_succ]
            refine wpAnyH_take (i := 37) (oi := { dst := some 100, op := Op.move (Operand.tmp 99), type := 4, pos := "law.go:192", after := #[{ on := 36, ground := Ground.data }, { on := 32, ground := Ground.chain }], guard := none }) (v := ?_) rfl (by kernel_rfl) (by kernel_rfl) (by kernel_rfl) (fun _ _ _ h => h) (Or.inl ⟨by rfl, ?hy100⟩) hS90 ?_
            case hy100 => (intro V hSw; (try dsimp only at hSw); clear hSw; go_simp; try with_reducible rfl)
            try simp only [Act.put, List.setIfInBounds_toArray, List.set_cons_zero, List.set_cons_succ]
            refine wpAnyH_ready (rs := [38]) (by kernel_rfl) (by simp) (AllReadyH.cons rfl (fun K hK => ?_) AllReadyH.nil)
            go_simp
            refine (awake15_any _).mono ?_
            rintro e wv101 ⟨rfl, hv101⟩
            have hS101 := Lib.hid (hS90.out.trans (hv101.mono hS90.out.size))
            clear hv101
            refine hK.out _ _ hS101 (fun _ => ?_)
            clear hK K
            try simp only [Act.put, List.setIfInBounds_toArray, List.set_cons_zero, List.set_cons_succ]
            refine wpAnyH_take (i := 39) (oi := { dst := some 102, op := Op.pick (Operand.tmp 100) (Operand.tmp 101) (Operand.const (Value.bool false)), type := 4, pos := "law.go:192", after := #[{ on := 37, ground := Ground.data }, { on := 38, ground := Ground.data }], guard := none }) (v := ?_) rfl (by kernel_rfl) (by kernel_rfl) (by kernel_rfl) (fun _ _ _ h => h) (Or.inl ⟨by rfl, ?hy102⟩) hS101 ?_
            case hy102 => (intro V hSw; (try dsimp only at hSw); clear hSw; go_simp; try with_reducible rfl)
            try simp only [Act.put, List.setIfInBounds_toArray, List.set_cons_zero, List.set_cons_succ]
            refine wpAnyH_ready (rs := [40]) (by kernel_rfl) (by simp) (AllReadyH.cons rfl (fun K hK => ?_) AllReadyH.nil)
            go_simp
            refine hK.out _ _ hS101 (fun _ => ?_)
            clear hK K
            try simp only [Act.put, List.setIfInBounds_toArray, List.set_cons_zero, List.set_cons_succ]
            refine wpAnyH_done (by kernel_rfl) ?_ _
            go_wp2_with fail
            go_ret
            exact ⟨rfl, Hb6.out.trans (hS101.out.mono Hb6.out.size)⟩
end Go.Proofs.Ytjefpogeknbelaa.Tithe
