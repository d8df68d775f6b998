/- THE LAW ManifestWhole: walked (printed by mkmanwh.py). -/
import Derived.Test.YthjjelomlgmllaaManSt
import Derived.Test.YthjjelomlgmllaaManAwake
import Derived.Test.YthjjelomlgmllaaManSmall
import Derived.Test.YthjjelomlgmllaaManOpenR
namespace Go.Proofs.Ythjjelomlgmllaa.Tithe
open Go.RowKit Go.Sort Go.Shelf
set_option linter.unusedVariables false
set_option linter.unusedSimpArgs false
set_option maxRecDepth 100000
theorem rc_row {w : World} {b off : Nat} {l : List Rv} (h : ∀ i x, l[i]? = some x → ∀ j y, (rcC x)[j]? = some y → w.cell? ⟨b, off + i * 5 + j, none⟩ = some y) {i : Nat} {x : Rv} (hx : l[i]? = some x) :
    w.cell? ⟨b, off + i * 5, none⟩ = some (.bool x.wh) ∧ w.cell? ⟨b, off + i * 5 + 1, none⟩ = some (.int .i64 x.s) ∧ w.cell? ⟨b, off + i * 5 + 2, none⟩ = some x.vl ∧ w.cell? ⟨b, off + i * 5 + 3, none⟩ = some x.va ∧ w.cell? ⟨b, off + i * 5 + 4, none⟩ = some x.vd :=
  ⟨h i x hx 0 _ rfl, h i x hx 1 _ rfl, h i x hx 2 _ rfl, h i x hx 3 _ rfl, h i x hx 4 _ rfl⟩
attribute [local go_sem] Oper.semAt_some
set_option maxHeartbeats 12800000 in
theorem manifestWhole_walk (v0 : Value) (l : List Rv) (wh : Bool) (s : Int) (vl va vd : Value) (ls : List Int) (ad : List (Int × Mr)) (dr : List Int) (w : World) (h0 : IsRc w v0 l) (hl : IsZs w vl ls) (hd : IsZs w vd dr) (ha : IsPl w va ad) :
    Calls Try.prog 8 #[v0, .agg #[.bool wh, .int .i64 s, vl, va, vd]] w fun e w' => e = .returned (.bool true) ∧ Below w.heap.size w w' := by
  obtain ⟨a0, c0, rfl, -, -, -⟩ := id h0.1
  obtain ⟨la, lc, rfl, -, -, -⟩ := id hl
  obtain ⟨da, dc, rfl, -, -, -⟩ := id hd
  obtain ⟨aa, ac, rfl, -, -, -⟩ := id ha.1
  obtain ⟨nl, hnl⟩ : ∃ q, q = ls.length := ⟨_, rfl⟩
  obtain ⟨nd, hnd⟩ : ∃ q, q = dr.length := ⟨_, rfl⟩
  obtain ⟨na, hna⟩ : ∃ q, q = ad.length := ⟨_, rfl⟩
  obtain ⟨n0, hn0⟩ : ∃ q, q = l.length := ⟨_, rfl⟩
  obtain ⟨-, -, -, hx0⟩ := h0.1.at
  rw [← hnl] at hl ⊢
  rw [← hnd] at hd ⊢
  rw [← hna] at ha ⊢
  rw [← hn0] at hx0 ⊢
  have HL := Lib.hid hl
  have HD := Lib.hid hd
  have HP := Lib.hid ha
  have Hx0 := Lib.hid hx0
  have Hrin := Lib.hid h0.2
  have Hn0 := Lib.hid hn0
  have Haw := Lib.hid (fun X => awake16_any X)
  obtain ⟨sm, hsm⟩ : ∃ q, q = smallR ls ad dr := ⟨_, rfl⟩
  have Hsm := Lib.hid hsm
  clear h0 hx0 hl hd ha hnl hnd hna hn0 hsm
  have hA : Below w.heap.size w (w.alloc (.cells #[.bool wh, .int .i64 s, .slice la nl lc, .slice aa na ac, .slice da nd dc] 27)) := (Below.refl _ _).alloc (Nat.le_refl _) _
  have HK := Lib.hid (blk_of_alloc w (.cells #[.bool wh, .int .i64 s, .slice la nl lc, .slice aa na ac, .slice da nd dc] 27))
  have HB := Lib.hid hA
  obtain ⟨ob, hob⟩ : ∃ q, q = w.heap.size := ⟨_, rfl⟩
  rw [← hob] at HK
  have Hob := Lib.hid hob
  clear hA hob
  go_enter Try.func8, Try.ntmps8
  go_upto_region 1 with fail
  rw [← Hob.out]
  generalize w.alloc (.cells #[.bool wh, .int .i64 s, .slice la nl lc, .slice aa na ac, .slice da nd dc] 27) = W at *
  by_cases hbig : 20 < n0
  · have hd1 : decide ((20 : Int) < (n0 : Int)) = true := decide_eq_true (by omega)
    have hd2 : decide ((n0 : Int) > 20) = true := decide_eq_true (by omega)
    go_wp2_with fail
    refine (Haw.out _).mono ?_
    rintro e w2 ⟨rfl, hb2⟩
    have Hb2 := Lib.hid (HB.out.trans (hb2.mono HB.out.size))
    clear hb2
    go_wp2_with fail
    go_ret
    exact ⟨rfl, Hb2.out⟩
  have hd1 : decide ((20 : Int) < (n0 : Int)) = false := decide_eq_false (by omega)
  have hd2 : decide ((n0 : Int) > 20) = false := decide_eq_false (by omega)
  have hs1 := small16_any wh s _ _ _ ls ad dr W (HL.out.below HB.out) (HD.out.below HB.out) (pl_bel HP.out HB.out)
  rw [← Hsm.out] at hs1
  have Hs1 := Lib.hid hs1
  clear hs1
  have b0 : W.cell? ⟨ob, 0, none⟩ = some (.bool wh) := by rw [cell_blkR HK.out]; rfl
  have b1 : W.cell? ⟨ob, 1, none⟩ = some (.int .i64 s) := by rw [cell_blkR HK.out]; rfl
  have b2 : W.cell? ⟨ob, 2, none⟩ = some (.slice la nl lc) := by rw [cell_blkR HK.out]; rfl
  have b3 : W.cell? ⟨ob, 3, none⟩ = some (.slice aa na ac) := by rw [cell_blkR HK.out]; rfl
  have b4 : W.cell? ⟨ob, 4, none⟩ = some (.slice da nd dc) := by rw [cell_blkR HK.out]; rfl
  go_wp2_with fail
  refine Hs1.out.mono ?_
  rintro e w1 ⟨rfl, hb1⟩
  have HB1 := Lib.hid (HB.out.trans (hb1.mono HB.out.size))
  have HK1 := Lib.hid (blk_bels hb1 HK.out)
  clear hb1 Hs1 HB HK b0 b1 b2 b3 b4 hd1 hd2
  cases sm
  · go_wp2_with fail
    refine (Haw.out _).mono ?_
    rintro e w2 ⟨rfl, hb2⟩
    have Hb2 := Lib.hid (HB1.out.trans (hb2.mono HB1.out.size))
    clear hb2
    go_wp2_with fail
    go_ret
    exact ⟨rfl, Hb2.out⟩
  have Hsb := Lib.hid (smallR_is Hsm.out.symm)
  clear Hsm
  have hA : Below w1.heap.size w1 (w1.alloc (.cells #[.slice none 0 0, .slice none 0 0, .slice none 0 0, .slice none 0 0, .int .i64 0, .slice none 0 0] 63)) := (Below.refl _ _).alloc (Nat.le_refl _) _
  have HKs := Lib.hid (blk_of_alloc w1 (.cells #[.slice none 0 0, .slice none 0 0, .slice none 0 0, .slice none 0 0, .int .i64 0, .slice none 0 0] 63))
  have HSv := Lib.hid (svI_new HB1.out hA HKs.out)
  have HK2 := Lib.hid (blk_bels hA HK1.out)
  obtain ⟨sb, hsb⟩ : ∃ q, q = w1.heap.size := ⟨_, rfl⟩
  rw [← hsb] at HSv
  have Hne : Hid (ob ≠ sb ∧ w.heap.size ≤ sb ∧ w.heap.size ≤ ob) := Lib.hid (by have h1 := blk_lt HK1.out; have h2 := HB1.out.size; have h3 := Hob.out; omega)
  have Hsbe := Lib.hid hsb
  clear hA hsb HKs HK1 HB1
  go_upto_region 4 with fail
  rw [← Hsbe.out]
  generalize w1.alloc (.cells #[.slice none 0 0, .slice none 0 0, .slice none 0 0, .slice none 0 0, .int .i64 0, .slice none 0 0] 63) = W2 at *
  go_wp2_with fail
  go_loopw [27] (fun iv wr => ∃ (k : Nat) (U : Vn) (q : Int) (vg : Value) (lg : List Int), k ≤ n0 ∧ iv = .int .i64 k ∧ SvI w sb U q vg lg wr ∧ wr.heap[ob]? = some (.cells #[.bool wh, .int .i64 s, .slice la nl lc, .slice aa na ac, .slice da nd dc] 27 (0, 0))) (fun i _ => n0 - (intOf i).toNat)
  case atStart => exact ⟨0, _, _, _, _, Nat.zero_le _, rfl, HSv.out, HK2.out⟩
  case round =>
    obtain ⟨k, U, q, vg, lg, hk, rfl, hsv, hko⟩ := hrel
    obtain ⟨wo, rfl⟩ : ∃ wo : World, wo = wr := ⟨_, rfl⟩
    obtain ⟨u0, m0, k0, u1, m1, k1, u2, m2, k2, u3, m3, k3, e0, e1, e2, e3⟩ := vn_slices hsv.own
    obtain ⟨gn, hg⟩ : ∃ q, q = lg.length := ⟨_, rfl⟩
    have hgz := hsv.lgs
    rw [OwnZ, ← hg] at hgz
    obtain ⟨ga, gc, rfl⟩ := own_slice hgz
    clear hgz hg
    have Hsv := Lib.hid hsv
    have Hko := Lib.hid hko
    clear hsv hko HSv HK2
    by_cases hkn : k < n0
    · have hlt : (k : Int) < (n0 : Int) := by omega
      obtain ⟨b, off, rfl, hcell⟩ := Hx0.out (by omega)
      obtain ⟨⟨rwh, rs, rvl, rva, rvd, rls, rad, rdr⟩, hr⟩ : ∃ z, l[k]? = some z := ⟨_, List.getElem?_eq_getElem (by rw [← Hn0.out]; exact hkn)⟩
      obtain ⟨c1, c2, c3, c4, c5⟩ := rc_row (w := wo) (fun i x hi j y hj => (Hsv.out.bw.cell (block_lt_of_cell (hcell i x hi j y hj))).trans (hcell i x hi j y hj)) hr
      have hin := Hrin.out _ (List.mem_of_getElem? hr)
      unfold RcIn at hin
      dsimp only at c1 c2 c3 c4 c5 hin
      obtain ⟨i1, i2, i3⟩ := hin
      obtain ⟨rla, rlc, rfl, -, -, -⟩ := id i1
      obtain ⟨rda, rdc, rfl, -, -, -⟩ := id i2
      obtain ⟨raa, rac, rfl, -, -, -⟩ := id i3.1
      obtain ⟨rnl, hrnl⟩ : ∃ q, q = rls.length := ⟨_, rfl⟩
      obtain ⟨rnd, hrnd⟩ : ∃ q, q = rdr.length := ⟨_, rfl⟩
      obtain ⟨rna, hrna⟩ : ∃ q, q = rad.length := ⟨_, rfl⟩
      rw [← hrnl] at i1 c3
      rw [← hrnd] at i2 c5
      rw [← hrna] at i3 c4
      have HrL := Lib.hid i1
      have HrD := Lib.hid i2
      have HrP := Lib.hid i3
      have hA : Below wo.heap.size wo (wo.alloc (.cells #[.bool rwh, .int .i64 rs, .slice rla rnl rlc, .slice raa rna rac, .slice rda rnd rdc] 27)) := (Below.refl _ _).alloc (Nat.le_refl _) _
      have HKr := Lib.hid (blk_of_alloc wo (.cells #[.bool rwh, .int .i64 rs, .slice rla rnl rlc, .slice raa rna rac, .slice rda rnd rdc] 27))
      have Hsv1 := Lib.hid (Hsv.out.below hA)
      have Hko1 := Lib.hid (blk_bels hA Hko.out)
      obtain ⟨rb, hrb⟩ : ∃ q, q = wo.heap.size := ⟨_, rfl⟩
      rw [← hrb] at HKr
      have Hrb := Lib.hid hrb
      obtain ⟨rsm, hrsm⟩ : ∃ q, q = smallR rls rad rdr := ⟨_, rfl⟩
      have Hrsm := Lib.hid hrsm
      clear hr hcell i1 i2 i3 hrnl hrnd hrna hA hrb hrsm Hsv Hko
      go_upto_region 7 with fail
      rw [← Hrb.out]
      generalize wo.alloc (.cells #[.bool rwh, .int .i64 rs, .slice rla rnl rlc, .slice raa rna rac, .slice rda rnd rdc] 27) = W3 at *
      clear c1 c2 c3 c4 c5
      have hs2 := small16_any rwh rs _ _ _ rls rad rdr W3 (HrL.out.below Hsv1.out.bw) (HrD.out.below Hsv1.out.bw) (pl_bel HrP.out Hsv1.out.bw)
      rw [← Hrsm.out] at hs2
      have Hs2 := Lib.hid hs2
      clear hs2
      have b0 : W3.cell? ⟨rb, 0, none⟩ = some (.bool rwh) := by rw [cell_blkR HKr.out]; rfl
      have b1 : W3.cell? ⟨rb, 1, none⟩ = some (.int .i64 rs) := by rw [cell_blkR HKr.out]; rfl
      have b2 : W3.cell? ⟨rb, 2, none⟩ = some (.slice rla rnl rlc) := by rw [cell_blkR HKr.out]; rfl
      have b3 : W3.cell? ⟨rb, 3, none⟩ = some (.slice raa rna rac) := by rw [cell_blkR HKr.out]; rfl
      have b4 : W3.cell? ⟨rb, 4, none⟩ = some (.slice rda rnd rdc) := by rw [cell_blkR HKr.out]; rfl
      go_wp2_with fail
      refine Hs2.out.mono ?_
      rintro e w4 ⟨rfl, hb4⟩
      have Hsv4 := Lib.hid (Hsv1.out.below hb4)
      have Hko4 := Lib.hid (blk_bels hb4 Hko1.out)
      have HKr4 := Lib.hid (blk_bels hb4 HKr.out)
      clear hb4 Hs2 Hsv1 Hko1 HKr b0 b1 b2 b3 b4
      cases rsm
      · go_wp2_with fail
        refine (Haw.out _).mono ?_
        rintro e w5 ⟨rfl, hb5⟩
        have Hb5 := Lib.hid (Hsv4.out.bw.trans (hb5.mono Hsv4.out.bw.size))
        clear hb5
        go_wp2_with fail
        go_ret
        exact ⟨rfl, Hb5.out⟩
      have hsb := smallR_is Hrsm.out.symm
      have hap := sapply_any U q (.slice ga gn gc) ⟨_, _, _, rfl⟩ rwh rs _ _ _ rls rad rdr w4 Hsv4.out.own.isVn Hsv4.out.ok Hsv4.out.small.1 Hsv4.out.small.2 (HrL.out.below Hsv4.out.bw) (HrD.out.below Hsv4.out.bw) (pl_bel HrP.out Hsv4.out.bw) (by have := hsb.2.2.1; omega) (fun p hp => by have := (hsb.1 p hp).1; omega)
      have hblk := Hsv4.out.blk
      rw [e0, e1, e2, e3] at hap hblk
      have Hap := Lib.hid hap
      have Hblk := Lib.hid hblk
      clear hap hblk hsb Hrsm
      have b0 : w4.cell? ⟨rb, 0, none⟩ = some (.bool rwh) := by rw [cell_blkR HKr4.out]; rfl
      have b1 : w4.cell? ⟨rb, 1, none⟩ = some (.int .i64 rs) := by rw [cell_blkR HKr4.out]; rfl
      have b2 : w4.cell? ⟨rb, 2, none⟩ = some (.slice rla rnl rlc) := by rw [cell_blkR HKr4.out]; rfl
      have b3 : w4.cell? ⟨rb, 3, none⟩ = some (.slice raa rna rac) := by rw [cell_blkR HKr4.out]; rfl
      have b4 : w4.cell? ⟨rb, 4, none⟩ = some (.slice rda rnd rdc) := by rw [cell_blkR HKr4.out]; rfl
      have s0 : w4.cell? ⟨sb, 0, none⟩ = some (.slice u0 m0 k0) := by rw [cell_blkR Hblk.out]; rfl
      have s1 : w4.cell? ⟨sb, 1, none⟩ = some (.slice u1 m1 k1) := by rw [cell_blkR Hblk.out]; rfl
      have s2 : w4.cell? ⟨sb, 2, none⟩ = some (.slice u2 m2 k2) := by rw [cell_blkR Hblk.out]; rfl
      have s3 : w4.cell? ⟨sb, 3, none⟩ = some (.slice u3 m3 k3) := by rw [cell_blkR Hblk.out]; rfl
      have s4 : w4.cell? ⟨sb, 4, none⟩ = some (.int .i64 q) := by rw [cell_blkR Hblk.out]; rfl
      have s5 : w4.cell? ⟨sb, 5, none⟩ = some (.slice ga gn gc) := by rw [cell_blkR Hblk.out]; rfl
      go_wp2_with fail
      refine Hap.out.mono ?_
      rintro e w6 hout
      obtain ⟨hb6, hc⟩ := stOut_two hout
      have Hsv6 := Lib.hid (Hsv4.out.below hb6)
      have Hko6 := Lib.hid (blk_bels hb6 Hko4.out)
      rcases hc with ⟨c, hc2, -, -, -, -, rfl⟩ | ⟨L', U', vg', hrk, hapl, rfl, hoU, hlU, hvU, hzU, hsU⟩
      · have hcn : decide (c = 0) = false := decide_eq_false (by omega)
        have hcb : (c == 0) = false := beq_eq_false_iff_ne.2 (by omega)
        have hA : Below w6.heap.size w6 (w6.alloc (.cells #[.slice none 0 0, .slice none 0 0, .slice none 0 0, .slice none 0 0, .int .i64 0, .slice none 0 0] 63)) := (Below.refl _ _).alloc (Nat.le_refl _) _
        have Hsv7 := Lib.hid (Hsv6.out.below hA)
        have Hko7 := Lib.hid (blk_bels hA Hko6.out)
        clear hout hb6 hA hc2 Hap Hsv4 Hko4 HKr4 Hblk b0 b1 b2 b3 b4 s0 s1 s2 s3 s4 s5 Hsv6 Hko6
        go_upto_region 12 with fail
        generalize w6.alloc (.cells #[.slice none 0 0, .slice none 0 0, .slice none 0 0, .slice none 0 0, .int .i64 0, .slice none 0 0] 63) = w7 at *
        go_wp2_with fail
        go_roundw
        case rel => exact ⟨k + 1, U, q, _, lg, by omega, by go_num, Hsv7.out, Hko7.out⟩
        case measure => simp [intOf]; omega
      · skip
        obtain ⟨nu0, nm0, nk0, nu1, nm1, nk1, nu2, nm2, nk2, nu3, nm3, nk3, ne0, ne1, ne2, ne3⟩ := vn_slices hoU
        obtain ⟨ngn, nhg⟩ : ∃ q, q = rls.length := ⟨_, rfl⟩
        have nhgz := hzU
        rw [OwnZ, ← nhg] at nhgz
        obtain ⟨nga, ngc, rfl⟩ := own_slice nhgz
        clear nhgz nhg
        rw [ne0, ne1, ne2, ne3]
        have hA : Below w6.heap.size w6 (w6.alloc (.cells #[.slice nu0 nm0 nk0, .slice nu1 nm1 nk1, .slice nu2 nm2 nk2, .slice nu3 nm3 nk3, .int .i64 rs, .slice nga ngn ngc] 63)) := (Below.refl _ _).alloc (Nat.le_refl _) _
        have Hsv7 := Lib.hid (Hsv6.out.below hA)
        have Hko7 := Lib.hid (blk_bels hA Hko6.out)
        have HoU := Lib.hid ((hoU.below hA).mono Hsv4.out.bw.size)
        have HzU := Lib.hid (own_mono (own_below hzU hA) Hsv4.out.bw.size)
        have HKn := Lib.hid (blk_of_alloc w6 (.cells #[.slice nu0 nm0 nk0, .slice nu1 nm1 nk1, .slice nu2 nm2 nk2, .slice nu3 nm3 nk3, .int .i64 rs, .slice nga ngn ngc] 63))
        obtain ⟨nb, hnb⟩ : ∃ q, q = w6.heap.size := ⟨_, rfl⟩
        rw [← hnb] at HKn
        have Hnb := Lib.hid hnb
        have HvU := Lib.hid hvU
        have HsU := Lib.hid hsU
        have Hn0e := Lib.hid ne0
        have Hn1e := Lib.hid ne1
        have Hn2e := Lib.hid ne2
        have Hn3e := Lib.hid ne3
        clear hout hb6 hA hnb hoU hlU hvU hzU hsU hapl hrk ne0 ne1 ne2 ne3 Hap Hsv4 Hko4 HKr4 Hblk b0 b1 b2 b3 b4 s0 s1 s2 s3 s4 s5 Hsv6 Hko6
        go_upto_region 11 with fail
        rw [← Hnb.out]
        generalize w6.alloc (.cells #[.slice nu0 nm0 nk0, .slice nu1 nm1 nk1, .slice nu2 nm2 nk2, .slice nu3 nm3 nk3, .int .i64 rs, .slice nga ngn ngc] 63) = w7 at *
        have hblk := Hsv7.out.blk
        rw [e0, e1, e2, e3] at hblk
        have n0 : w7.cell? ⟨nb, 0, none⟩ = some (.slice nu0 nm0 nk0) := by rw [cell_blkR HKn.out]; rfl
        have n1 : w7.cell? ⟨nb, 1, none⟩ = some (.slice nu1 nm1 nk1) := by rw [cell_blkR HKn.out]; rfl
        have n2 : w7.cell? ⟨nb, 2, none⟩ = some (.slice nu2 nm2 nk2) := by rw [cell_blkR HKn.out]; rfl
        have n3 : w7.cell? ⟨nb, 3, none⟩ = some (.slice nu3 nm3 nk3) := by rw [cell_blkR HKn.out]; rfl
        have n4 : w7.cell? ⟨nb, 4, none⟩ = some (.int .i64 rs) := by rw [cell_blkR HKn.out]; rfl
        have n5 : w7.cell? ⟨nb, 5, none⟩ = some (.slice nga ngn ngc) := by rw [cell_blkR HKn.out]; rfl
        have s0 : w7.cell? ⟨sb, 0, none⟩ = some (.slice u0 m0 k0) := by rw [cell_blkR hblk]; rfl
        have s1 : w7.cell? ⟨sb, 1, none⟩ = some (.slice u1 m1 k1) := by rw [cell_blkR hblk]; rfl
        have s2 : w7.cell? ⟨sb, 2, none⟩ = some (.slice u2 m2 k2) := by rw [cell_blkR hblk]; rfl
        have s3 : w7.cell? ⟨sb, 3, none⟩ = some (.slice u3 m3 k3) := by rw [cell_blkR hblk]; rfl
        have s4 : w7.cell? ⟨sb, 4, none⟩ = some (.int .i64 q) := by rw [cell_blkR hblk]; rfl
        have s5 : w7.cell? ⟨sb, 5, none⟩ = some (.slice ga gn gc) := by rw [cell_blkR hblk]; rfl
        have f0 := frozen_blkR hblk 0
        have f1 := frozen_blkR hblk 1
        have f2 := frozen_blkR hblk 2
        have f3 := frozen_blkR hblk 3
        have f4 := frozen_blkR hblk 4
        have f5 := frozen_blkR hblk 5
        have Hsv8 := Lib.hid (Hsv7.out.turn Hne.out.2.1 HoU.out HzU.out HvU.out HsU.out Hn0e.out Hn1e.out Hn2e.out Hn3e.out)
        have Hko8 := Lib.hid ((set6_oth w7 sb (.slice nu0 nm0 nk0) (.slice nu1 nm1 nk1) (.slice nu2 nm2 nk2) (.slice nu3 nm3 nk3) (.int .i64 rs) (.slice nga ngn ngc) ob Hne.out.1).trans Hko7.out)
        clear hblk
        go_wp2_with fail
        go_roundw
        case rel => exact ⟨k + 1, U', rs, _, rls, by omega, by go_num, Hsv8.out, Hko8.out⟩
        case measure => simp [intOf]; omega
    · have hlt : ¬ (k : Int) < (n0 : Int) := by omega
      obtain rfl : k = n0 := by omega
      have hblk0 := Hsv.out.blk
      rw [e0, e1, e2, e3] at hblk0
      have o0 : wo.cell? ⟨ob, 0, none⟩ = some (.bool wh) := by rw [cell_blkR Hko.out]; rfl
      have o1 := frozen_blkR Hko.out 0
      have HK1 := Lib.hid (show (wo.setCell ⟨ob, 0, none⟩ (.bool true)).heap[ob]? = some (.cells #[.bool true, .int .i64 s, .slice la nl lc, .slice aa na ac, .slice da nd dc] 27 (0, 0)) from (blk_setCellR Hko.out).trans rfl)
      have Hsv1 := Lib.hid (Hsv.out.other (X := wo.setCell ⟨ob, 0, none⟩ (.bool true)) Hko.out (Ne.symm Hne.out.1) (by decide) (by decide) (by decide) (fun k hk => Below.heap_setCell _ ⟨ob, 0, none⟩ _ k hk) (Hsv.out.bw.setCell (p := ⟨ob, 0, none⟩) Hne.out.2.2 _))
      clear hblk0
      go_upto_region 14 with fail
      generalize wo.setCell ⟨ob, 0, none⟩ (.bool true) = w2 at *
      clear o0 o1
      have hA : Below w2.heap.size w2 (w2.alloc (.cells #[.slice none 0 0, .slice none 0 0, .slice none 0 0, .slice none 0 0, .int .i64 0, .slice none 0 0] 63)) := (Below.refl _ _).alloc (Nat.le_refl _) _
      have HKe := Lib.hid (blk_of_alloc w2 (.cells #[.slice none 0 0, .slice none 0 0, .slice none 0 0, .slice none 0 0, .int .i64 0, .slice none 0 0] 63))
      have Hsv2 := Lib.hid (Hsv1.out.below hA)
      have HK2 := Lib.hid (blk_bels hA HK1.out)
      obtain ⟨eb, heb⟩ : ∃ q, q = w2.heap.size := ⟨_, rfl⟩
      rw [← heb] at HKe
      have Heb := Lib.hid heb
      clear hA heb HK1 Hsv1 Hsv Hko
      go_upto_region 15 with fail
      rw [← Heb.out]
      generalize w2.alloc (.cells #[.slice none 0 0, .slice none 0 0, .slice none 0 0, .slice none 0 0, .int .i64 0, .slice none 0 0] 63) = w3 at *
      have hap := sapply_any U q (.slice ga gn gc) ⟨_, _, _, rfl⟩ true s _ _ _ ls ad dr w3 Hsv2.out.own.isVn Hsv2.out.ok Hsv2.out.small.1 Hsv2.out.small.2 (HL.out.below Hsv2.out.bw) (HD.out.below Hsv2.out.bw) (pl_bel HP.out Hsv2.out.bw) (by have := Hsb.out.2.2.1; omega) (fun p hp => by have := (Hsb.out.1 p hp).1; omega)
      have hblk := Hsv2.out.blk
      rw [e0, e1, e2, e3] at hap hblk
      have Hap := Lib.hid hap
      have Hblk := Lib.hid hblk
      clear hap hblk
      have b0 : w3.cell? ⟨ob, 0, none⟩ = some (.bool true) := by rw [cell_blkR HK2.out]; rfl
      have b1 : w3.cell? ⟨ob, 1, none⟩ = some (.int .i64 s) := by rw [cell_blkR HK2.out]; rfl
      have b2 : w3.cell? ⟨ob, 2, none⟩ = some (.slice la nl lc) := by rw [cell_blkR HK2.out]; rfl
      have b3 : w3.cell? ⟨ob, 3, none⟩ = some (.slice aa na ac) := by rw [cell_blkR HK2.out]; rfl
      have b4 : w3.cell? ⟨ob, 4, none⟩ = some (.slice da nd dc) := by rw [cell_blkR HK2.out]; rfl
      have s0 : w3.cell? ⟨sb, 0, none⟩ = some (.slice u0 m0 k0) := by rw [cell_blkR Hblk.out]; rfl
      have s1 : w3.cell? ⟨sb, 1, none⟩ = some (.slice u1 m1 k1) := by rw [cell_blkR Hblk.out]; rfl
      have s2 : w3.cell? ⟨sb, 2, none⟩ = some (.slice u2 m2 k2) := by rw [cell_blkR Hblk.out]; rfl
      have s3 : w3.cell? ⟨sb, 3, none⟩ = some (.slice u3 m3 k3) := by rw [cell_blkR Hblk.out]; rfl
      have s4 : w3.cell? ⟨sb, 4, none⟩ = some (.int .i64 q) := by rw [cell_blkR Hblk.out]; rfl
      have s5 : w3.cell? ⟨sb, 5, none⟩ = some (.slice ga gn gc) := by rw [cell_blkR Hblk.out]; rfl
      go_wp2_with fail
      refine Hap.out.mono ?_
      rintro e w4 hout
      obtain ⟨hb4, hc⟩ := stOut_two hout
      have Hsv4 := Lib.hid (Hsv2.out.below hb4)
      have HK4 := Lib.hid (blk_bels hb4 HK2.out)
      have HKe4 := Lib.hid (blk_bels hb4 HKe.out)
      clear hout b0 b1 b2 b3 b4 s0 s1 s2 s3 s4 s5 Hap Hblk HK2 HKe Hsv2
      rcases hc with ⟨c, hc2, -, hno, hcf, hct, rfl⟩ | ⟨L', U', vg', hrk, hapl, rfl, hoU, hlU, hvU, hzU, hsU⟩
      · have hA : Below w4.heap.size w4 (w4.alloc (.cells #[.slice none 0 0, .slice none 0 0, .slice none 0 0, .slice none 0 0, .int .i64 0, .slice none 0 0] 63)) := (Below.refl _ _).alloc (Nat.le_refl _) _
        have Hsv5 := Lib.hid (Hsv4.out.below hA)
        have HK5 := Lib.hid (blk_bels hA HK4.out)
        have HKe5 := Lib.hid (blk_bels hA HKe4.out)
        have Hno := Lib.hid (And.intro hno (And.intro hcf hct))
        have Hc2 := Lib.hid hc2
        clear hb4 hA hno hcf hct hc2 Hsv4 HK4 HKe4
        go_upto_region 16 with fail
        generalize w4.alloc (.cells #[.slice none 0 0, .slice none 0 0, .slice none 0 0, .slice none 0 0, .int .i64 0, .slice none 0 0] 63) = w5 at *
        have hap := sapply_any Vn.none 0 (.slice none 0 0) ⟨_, _, _, rfl⟩ true s _ _ _ ls ad dr w5 (ownVn_none _ 0).isVn rfl (Nat.zero_le _) (fun p hp => by cases hp) (HL.out.below Hsv5.out.bw) (HD.out.below Hsv5.out.bw) (pl_bel HP.out Hsv5.out.bw) (by have := Hsb.out.2.2.1; omega) (fun p hp => by have := (Hsb.out.1 p hp).1; omega)
        have Hap := Lib.hid (show Calls Try.prog 23 #[.agg #[.slice none 0 0, .slice none 0 0, .slice none 0 0, .slice none 0 0, .int .i64 0, .slice none 0 0], .agg #[.bool true, .int .i64 s, .slice la nl lc, .slice aa na ac, .slice da nd dc]] w5 _ from hap)
        clear hap
        have b0 : w5.cell? ⟨ob, 0, none⟩ = some (.bool true) := by rw [cell_blkR HK5.out]; rfl
        have b1 : w5.cell? ⟨ob, 1, none⟩ = some (.int .i64 s) := by rw [cell_blkR HK5.out]; rfl
        have b2 : w5.cell? ⟨ob, 2, none⟩ = some (.slice la nl lc) := by rw [cell_blkR HK5.out]; rfl
        have b3 : w5.cell? ⟨ob, 3, none⟩ = some (.slice aa na ac) := by rw [cell_blkR HK5.out]; rfl
        have b4 : w5.cell? ⟨ob, 4, none⟩ = some (.slice da nd dc) := by rw [cell_blkR HK5.out]; rfl
        have s0 : w5.cell? ⟨eb, 0, none⟩ = some (.slice none 0 0) := by rw [cell_blkR HKe5.out]; rfl
        have s1 : w5.cell? ⟨eb, 1, none⟩ = some (.slice none 0 0) := by rw [cell_blkR HKe5.out]; rfl
        have s2 : w5.cell? ⟨eb, 2, none⟩ = some (.slice none 0 0) := by rw [cell_blkR HKe5.out]; rfl
        have s3 : w5.cell? ⟨eb, 3, none⟩ = some (.slice none 0 0) := by rw [cell_blkR HKe5.out]; rfl
        have s4 : w5.cell? ⟨eb, 4, none⟩ = some (.int .i64 0) := by rw [cell_blkR HKe5.out]; rfl
        have s5 : w5.cell? ⟨eb, 5, none⟩ = some (.slice none 0 0) := by rw [cell_blkR HKe5.out]; rfl
        go_wp2_with fail
        refine Hap.out.mono ?_
        rintro e w6 hout
        obtain ⟨hb6, hc⟩ := stOut_two hout
        have Hsv6 := Lib.hid (Hsv5.out.below hb6)
        clear hout hb6 b0 b1 b2 b3 b4 s0 s1 s2 s3 s4 s5 Hap HK5 HKe5 Hsv5
        rcases hc with ⟨c', hc2', -, -, hcf', hct', rfl⟩ | ⟨L'', U'', vg'', hrk', hapl', -⟩
        rotate_left
        · exfalso
          have h1 := Hno.out.1
          unfold stP at h1
          rw [if_pos hrk'] at h1
          have h2 : applyP (lvOf Vn.none.l) dr (psM ad) = some L'' := hapl'
          have h3 : applyP (lvOf Vn.none.l) dr (psM ad) = none := h1
          rw [h2] at h3
          cases h3
        obtain rfl : c = c' := by
          cases hrr : recOk ⟨true, s, ls, ad, dr⟩ with
          | false => rw [Hno.out.2.1 hrr, hcf' hrr]
          | true => rw [Hno.out.2.2 hrr, hct' hrr]
        have hcn : decide (c = 0) = false := decide_eq_false (by have := Hc2.out; omega)
        have hcb : (c == 0) = false := beq_eq_false_iff_ne.2 (by have := Hc2.out; omega)
        have hA : Below w6.heap.size w6 (w6.alloc (.cells #[.slice none 0 0, .slice none 0 0, .slice none 0 0, .slice none 0 0, .int .i64 0, .slice none 0 0] 63)) := (Below.refl _ _).alloc (Nat.le_refl _) _
        have Hsv7 := Lib.hid (Hsv6.out.below hA)
        clear hc2' hcf' hct' hA Hsv6
        go_upto_region 21 with fail
        generalize w6.alloc (.cells #[.slice none 0 0, .slice none 0 0, .slice none 0 0, .slice none 0 0, .int .i64 0, .slice none 0 0] 63) = w7 at *
        have hwh := swhole_any U q (.slice ga gn gc) lg w7 Hsv7.out.own.isVn Hsv7.out.small.1 Hsv7.out.small.2 (isSl_own zzC_len Hsv7.out.lgs) Hsv7.out.logs
        have hblk := Hsv7.out.blk
        rw [e0, e1, e2, e3] at hwh hblk
        have Hwh := Lib.hid hwh
        have s0 : w7.cell? ⟨sb, 0, none⟩ = some (.slice u0 m0 k0) := by rw [cell_blkR hblk]; rfl
        have s1 : w7.cell? ⟨sb, 1, none⟩ = some (.slice u1 m1 k1) := by rw [cell_blkR hblk]; rfl
        have s2 : w7.cell? ⟨sb, 2, none⟩ = some (.slice u2 m2 k2) := by rw [cell_blkR hblk]; rfl
        have s3 : w7.cell? ⟨sb, 3, none⟩ = some (.slice u3 m3 k3) := by rw [cell_blkR hblk]; rfl
        have s4 : w7.cell? ⟨sb, 4, none⟩ = some (.int .i64 q) := by rw [cell_blkR hblk]; rfl
        have s5 : w7.cell? ⟨sb, 5, none⟩ = some (.slice ga gn gc) := by rw [cell_blkR hblk]; rfl
        clear hwh hblk
        go_wp2_with fail
        refine Hwh.out.mono ?_
        rintro e wq ⟨zvl, zva, zad, rfl, hzp, hzo, hzz, hbq⟩
        have Hsvq := Lib.hid (Hsv7.out.below hbq)
        obtain ⟨zn, hzn⟩ : ∃ q, q = zad.length := ⟨_, rfl⟩
        have hzo1 := hzo.1
        rw [← hzn] at hzo1
        obtain ⟨xa, xc, rfl⟩ := own_slice hzo1
        obtain ⟨yn, hyn⟩ : ∃ q, q = lg.length := ⟨_, rfl⟩
        have hzz1 := hzz
        rw [OwnZ, ← hyn] at hzz1
        obtain ⟨ya, yc, rfl⟩ := own_slice hzz1
        have hzt : (tabs U.l 4).length = zn := by
          have h1 := congrArg List.length hzp
          unfold psM at h1
          rw [List.length_map, whP_len] at h1
          omega
        have hA : Below wq.heap.size wq (wq.alloc (.cells #[.bool true, .int .i64 q, .slice ya yn yc, .slice xa zn xc, .slice none 0 0] 27)) := (Below.refl _ _).alloc (Nat.le_refl _) _
        have Hsvz := Lib.hid (Hsvq.out.below hA)
        have Hyz := Lib.hid (show IsZs (wq.alloc (.cells #[.bool true, .int .i64 q, .slice ya yn yc, .slice xa zn xc, .slice none 0 0] 27)) (.slice ya yn yc) lg from (isSl_own zzC_len hzz : IsZs wq _ lg).below hA)
        have HKz := Lib.hid (blk_of_alloc wq (.cells #[.bool true, .int .i64 q, .slice ya yn yc, .slice xa zn xc, .slice none 0 0] 27))
        obtain ⟨zb, hzb⟩ : ∃ q, q = wq.heap.size := ⟨_, rfl⟩
        rw [← hzb] at HKz
        have Hzb := Lib.hid hzb
        have Hzt := Lib.hid hzt
        clear hzn hzo1 hyn hzz1 hzp hzo hzz hbq hA hzb hzt Hsvq Hwh s0 s1 s2 s3 s4 s5
        go_upto_region 22 with fail
        rw [← Hzb.out]
        generalize wq.alloc (.cells #[.bool true, .int .i64 q, .slice ya yn yc, .slice xa zn xc, .slice none 0 0] 27) = W9 at *
        have HB9 := Lib.hid Hsvz.out.bw
        have hblk := Hsvz.out.blk
        rw [e0, e1, e2, e3] at hblk
        have HTab : Hid (∀ X : World, Below W9.heap.size W9 X → Calls Try.prog 28 #[.agg #[.slice u0 m0 k0, .slice u1 m1 k1, .slice u2 m2 k2, .slice u3 m3 k3]] X fun e w' => ∃ ta tc, e = .returned (.slice ta zn tc) ∧ Below X.heap.size X w') := Lib.hid (fun X hX => by
          have h := tables_any U X (Hsvz.out.own.isVn.below hX) Hsvz.out.small.1 Hsvz.out.small.2
          unfold Vn.cells at h
          rw [e0, e1, e2, e3] at h
          refine h.mono ?_
          rintro e w' ⟨x, rows, rfl, hx, hr, hb⟩
          have h2 := congrArg List.length hr
          rw [List.length_map, List.length_map, Hzt.out] at h2
          have h3 := hx.1
          rw [h2] at h3
          obtain ⟨ta, tc, rfl⟩ := own_slice h3
          exact ⟨ta, tc, rfl, hb⟩)
        have HIn : Hid (∀ X : World, Below W9.heap.size W9 X → Calls Try.prog 18 #[.slice ya yn yc, .slice ga gn gc] X fun e w' => e = .returned (.bool true) ∧ Below X.heap.size X w') := Lib.hid (fun X hX => by
          have h := ints_any (.slice ya yn yc) (.slice ga gn gc) lg lg X (Hyz.out.below hX) ((isSl_own zzC_len Hsvz.out.lgs : IsZs W9 _ lg).below hX)
          rw [decide_eq_true rfl] at h
          exact h)
        have z0 : W9.cell? ⟨zb, 0, none⟩ = some (.bool true) := by rw [cell_blkR HKz.out]; rfl
        have z1 : W9.cell? ⟨zb, 1, none⟩ = some (.int .i64 q) := by rw [cell_blkR HKz.out]; rfl
        have z2 : W9.cell? ⟨zb, 2, none⟩ = some (.slice ya yn yc) := by rw [cell_blkR HKz.out]; rfl
        have z3 : W9.cell? ⟨zb, 3, none⟩ = some (.slice xa zn xc) := by rw [cell_blkR HKz.out]; rfl
        have z4 : W9.cell? ⟨zb, 4, none⟩ = some (.slice none 0 0) := by rw [cell_blkR HKz.out]; rfl
        have s0 : W9.cell? ⟨sb, 0, none⟩ = some (.slice u0 m0 k0) := by rw [cell_blkR hblk]; rfl
        have s1 : W9.cell? ⟨sb, 1, none⟩ = some (.slice u1 m1 k1) := by rw [cell_blkR hblk]; rfl
        have s2 : W9.cell? ⟨sb, 2, none⟩ = some (.slice u2 m2 k2) := by rw [cell_blkR hblk]; rfl
        have s3 : W9.cell? ⟨sb, 3, none⟩ = some (.slice u3 m3 k3) := by rw [cell_blkR hblk]; rfl
        have s4 : W9.cell? ⟨sb, 4, none⟩ = some (.int .i64 q) := by rw [cell_blkR hblk]; rfl
        have s5 : W9.cell? ⟨sb, 5, none⟩ = some (.slice ga gn gc) := by rw [cell_blkR hblk]; rfl
        clear hblk
        refine wp_region_held_drew (S := fun V' => Hid (Below W9.heap.size W9 V')) (by kernel_rfl) (Lib.hid ((Below.refl _ _).drew)) (fun hS0 => ?_)
        refine wpAnyH_take (i := 0) (oi := { dst := some 88, op := Op.fieldAddr 27 (Operand.tmp 15) 0, type := 0, pos := "law.go:210", after := #[], guard := none }) (v := ?_) rfl (by kernel_rfl) (by kernel_rfl) (by kernel_rfl) (fun _ _ _ h => h) (Or.inl ⟨by rfl, ?hy1⟩) hS0 ?_
        case hy1 => (intro V hSw; (try dsimp only at hSw); clear hSw; go_simp; try with_reducible rfl)
        try simp only [Act.put, List.setIfInBounds_toArray, List.set_cons_zero, List.set_cons_succ]
        refine wpAnyH_take (i := 1) (oi := { dst := some 89, op := Op.load 4 (Operand.tmp 88), type := 4, pos := "law.go:210", after := #[{ on := 0, ground := Ground.data }], guard := none }) (v := ?_) rfl (by kernel_rfl) (by kernel_rfl) (by kernel_rfl) (fun _ _ _ h => h) (Or.inl ⟨by rfl, ?hy2⟩) hS0 ?_
        case hy2 => (intro V hSw; (try dsimp only at hSw); have q0 := grow_cell hSw.out (block_lt_of_cell z0) z0; have q1 := grow_cell hSw.out (block_lt_of_cell z1) z1; have q2 := grow_cell hSw.out (block_lt_of_cell z2) z2; have q3 := grow_cell hSw.out (block_lt_of_cell z3) z3; have q4 := grow_cell hSw.out (block_lt_of_cell z4) z4; have q5 := grow_cell hSw.out (block_lt_of_cell s0) s0; have q6 := grow_cell hSw.out (block_lt_of_cell s1) s1; have q7 := grow_cell hSw.out (block_lt_of_cell s2) s2; have q8 := grow_cell hSw.out (block_lt_of_cell s3) s3; have q9 := grow_cell hSw.out (block_lt_of_cell s4) s4; have q10 := grow_cell hSw.out (block_lt_of_cell s5) s5; clear hSw; go_simp; try with_reducible rfl)
        try simp only [Act.put, List.setIfInBounds_toArray, List.set_cons_zero, List.set_cons_succ]
        refine wpAnyH_take (i := 2) (oi := { dst := some 90, op := Op.move (Operand.tmp 89), type := 4, pos := "law.go:210", after := #[{ on := 1, ground := Ground.data }], guard := none }) (v := ?_) rfl (by kernel_rfl) (by kernel_rfl) (by kernel_rfl) (fun _ _ _ h => h) (Or.inl ⟨by rfl, ?hy3⟩) hS0 ?_
        case hy3 => (intro V hSw; (try dsimp only at hSw); clear hSw; go_simp; try with_reducible rfl)
        try simp only [Act.put, List.setIfInBounds_toArray, List.set_cons_zero, List.set_cons_succ]
        refine wpAnyH_take (i := 3) (oi := { dst := some 91, op := Op.fieldAddr 27 (Operand.tmp 15) 3, type := 0, pos := "law.go:210", after := #[{ on := 2, ground := Ground.guard }], guard := some (2, true) }) (v := ?_) rfl (by kernel_rfl) (by kernel_rfl) (by kernel_rfl) (fun _ _ _ h => h) (Or.inl ⟨by rfl, ?hy4⟩) hS0 ?_
        case hy4 => (intro V hSw; (try dsimp only at hSw); clear hSw; go_simp; try with_reducible rfl)
        try simp only [Act.put, List.setIfInBounds_toArray, List.set_cons_zero, List.set_cons_succ]
        refine wpAnyH_take (i := 4) (oi := { dst := some 92, op := Op.fieldAddr 25 (Operand.tmp 91) 1, type := 0, pos := "law.go:210", after := #[{ on := 3, ground := Ground.data }, { on := 2, ground := Ground.guard }], guard := some (2, true) }) (v := ?_) rfl (by kernel_rfl) (by kernel_rfl) (by kernel_rfl) (fun _ _ _ h => h) (Or.inl ⟨by rfl, ?hy5⟩) hS0 ?_
        case hy5 => (intro V hSw; (try dsimp only at hSw); clear hSw; go_simp; try with_reducible rfl)
        try simp only [Act.put, List.setIfInBounds_toArray, List.set_cons_zero, List.set_cons_succ]
        refine wpAnyH_take (i := 5) (oi := { dst := some 93, op := Op.load 22 (Operand.tmp 92), type := 22, pos := "law.go:210", after := #[{ on := 4, ground := Ground.data }, { on := 2, ground := Ground.guard }], guard := some (2, true) }) (v := ?_) rfl (by kernel_rfl) (by kernel_rfl) (by kernel_rfl) (fun _ _ _ h => h) (Or.inl ⟨by rfl, ?hy6⟩) hS0 ?_
        case hy6 => (intro V hSw; (try dsimp only at hSw); have q0 := grow_cell hSw.out (block_lt_of_cell z0) z0; have q1 := grow_cell hSw.out (block_lt_of_cell z1) z1; have q2 := grow_cell hSw.out (block_lt_of_cell z2) z2; have q3 := grow_cell hSw.out (block_lt_of_cell z3) z3; have q4 := grow_cell hSw.out (block_lt_of_cell z4) z4; have q5 := grow_cell hSw.out (block_lt_of_cell s0) s0; have q6 := grow_cell hSw.out (block_lt_of_cell s1) s1; have q7 := grow_cell hSw.out (block_lt_of_cell s2) s2; have q8 := grow_cell hSw.out (block_lt_of_cell s3) s3; have q9 := grow_cell hSw.out (block_lt_of_cell s4) s4; have q10 := grow_cell hSw.out (block_lt_of_cell s5) s5; clear hSw; go_simp; try with_reducible rfl)
        try simp only [Act.put, List.setIfInBounds_toArray, List.set_cons_zero, List.set_cons_succ]
        refine wpAnyH_take (i := 6) (oi := { dst := some 94, op := Op.call { callee := Callee.builtin Builtin.len, args := #[Operand.tmp 93], argTypes := #[22] }, type := 3, pos := "law.go:210", after := #[{ on := 5, ground := Ground.data }, { on := 2, ground := Ground.guard }], guard := some (2, true) }) (v := ?_) rfl (by kernel_rfl) (by kernel_rfl) (by kernel_rfl) (fun _ _ _ h => h) (Or.inl ⟨by rfl, ?hy7⟩) hS0 ?_
        case hy7 => (intro V hSw; (try dsimp only at hSw); clear hSw; go_simp; try with_reducible rfl)
        try simp only [Act.put, List.setIfInBounds_toArray, List.set_cons_zero, List.set_cons_succ]
        refine wpAnyH_take (i := 7) (oi := { dst := some 95, op := Op.binOp BinOp.eql 3 (Operand.tmp 94) (Operand.const (Value.int IntKind.i64 0)) 3, type := 4, pos := "law.go:210", after := #[{ on := 6, ground := Ground.data }, { on := 2, ground := Ground.guard }], guard := some (2, true) }) (v := ?_) rfl (by kernel_rfl) (by kernel_rfl) (by kernel_rfl) (fun _ _ _ h => h) (Or.inl ⟨by rfl, ?hy8⟩) hS0 ?_
        case hy8 => (intro V hSw; (try dsimp only at hSw); clear hSw; go_simp; try with_reducible rfl)
        try simp only [Act.put, List.setIfInBounds_toArray, List.set_cons_zero, List.set_cons_succ]
        refine wpAnyH_take (i := 8) (oi := { dst := some 96, op := Op.pick (Operand.tmp 90) (Operand.tmp 95) (Operand.const (Value.bool false)), type := 4, pos := "law.go:210", after := #[{ on := 2, ground := Ground.data }, { on := 7, ground := Ground.data }], guard := none }) (v := ?_) rfl (by kernel_rfl) (by kernel_rfl) (by kernel_rfl) (fun _ _ _ h => h) (Or.inl ⟨by rfl, ?hy9⟩) hS0 ?_
        case hy9 => (intro V hSw; (try dsimp only at hSw); clear hSw; go_simp; try with_reducible rfl)
        try simp only [Act.put, List.setIfInBounds_toArray, List.set_cons_zero, List.set_cons_succ]
        refine wpAnyH_take (i := 9) (oi := { dst := some 97, op := Op.move (Operand.tmp 96), type := 4, pos := "law.go:210", after := #[{ on := 8, ground := Ground.data }, { on := 2, ground := Ground.chain }], guard := none }) (v := ?_) rfl (by kernel_rfl) (by kernel_rfl) (by kernel_rfl) (fun _ _ _ h => h) (Or.inl ⟨by rfl, ?hy10⟩) hS0 ?_
        case hy10 => (intro V hSw; (try dsimp only at hSw); clear hSw; go_simp; try with_reducible rfl)
        try simp only [Act.put, List.setIfInBounds_toArray, List.set_cons_zero, List.set_cons_succ]
        refine wpAnyH_take (i := 10) (oi := { dst := some 98, op := Op.fieldAddr 27 (Operand.tmp 15) 3, type := 0, pos := "law.go:210", after := #[{ on := 9, ground := Ground.guard }], guard := some (9, true) }) (v := ?_) rfl (by kernel_rfl) (by kernel_rfl) (by kernel_rfl) (fun _ _ _ h => h) (Or.inl ⟨by rfl, ?hy11⟩) hS0 ?_
        case hy11 => (intro V hSw; (try dsimp only at hSw); clear hSw; go_simp; try with_reducible rfl)
        try simp only [Act.put, List.setIfInBounds_toArray, List.set_cons_zero, List.set_cons_succ]
        refine wpAnyH_take (i := 11) (oi := { dst := some 99, op := Op.fieldAddr 25 (Operand.tmp 98) 0, type := 0, pos := "law.go:210", after := #[{ on := 10, ground := Ground.data }, { on := 9, ground := Ground.guard }], guard := some (9, true) }) (v := ?_) rfl (by kernel_rfl) (by kernel_rfl) (by kernel_rfl) (fun _ _ _ h => h) (Or.inl ⟨by rfl, ?hy12⟩) hS0 ?_
        case hy12 => (intro V hSw; (try dsimp only at hSw); clear hSw; go_simp; try with_reducible rfl)
        try simp only [Act.put, List.setIfInBounds_toArray, List.set_cons_zero, List.set_cons_succ]
        refine wpAnyH_take (i := 12) (oi := { dst := some 100, op := Op.load 23 (Operand.tmp 99), type := 23, pos := "law.go:210", after := #[{ on := 11, ground := Ground.data }, { on := 9, ground := Ground.guard }], guard := some (9, true) }) (v := ?_) rfl (by kernel_rfl) (by kernel_rfl) (by kernel_rfl) (fun _ _ _ h => h) (Or.inl ⟨by rfl, ?hy13⟩) hS0 ?_
        case hy13 => (intro V hSw; (try dsimp only at hSw); have q0 := grow_cell hSw.out (block_lt_of_cell z0) z0; have q1 := grow_cell hSw.out (block_lt_of_cell z1) z1; have q2 := grow_cell hSw.out (block_lt_of_cell z2) z2; have q3 := grow_cell hSw.out (block_lt_of_cell z3) z3; have q4 := grow_cell hSw.out (block_lt_of_cell z4) z4; have q5 := grow_cell hSw.out (block_lt_of_cell s0) s0; have q6 := grow_cell hSw.out (block_lt_of_cell s1) s1; have q7 := grow_cell hSw.out (block_lt_of_cell s2) s2; have q8 := grow_cell hSw.out (block_lt_of_cell s3) s3; have q9 := grow_cell hSw.out (block_lt_of_cell s4) s4; have q10 := grow_cell hSw.out (block_lt_of_cell s5) s5; clear hSw; go_simp; try with_reducible rfl)
        try simp only [Act.put, List.setIfInBounds_toArray, List.set_cons_zero, List.set_cons_succ]
        refine wpAnyH_take (i := 13) (oi := { dst := some 101, op := Op.call { callee := Callee.builtin Builtin.len, args := #[Operand.tmp 100], argTypes := #[23] }, type := 3, pos := "law.go:210", after := #[{ on := 12, ground := Ground.data }, { on := 9, ground := Ground.guard }], guard := some (9, true) }) (v := ?_) rfl (by kernel_rfl) (by kernel_rfl) (by kernel_rfl) (fun _ _ _ h => h) (Or.inl ⟨by rfl, ?hy14⟩) hS0 ?_
        case hy14 => (intro V hSw; (try dsimp only at hSw); clear hSw; go_simp; try with_reducible rfl)
        try simp only [Act.put, List.setIfInBounds_toArray, List.set_cons_zero, List.set_cons_succ]
        refine wpAnyH_take (i := 14) (oi := { dst := some 102, op := Op.fieldAddr 63 (Operand.tmp 5) 0, type := 0, pos := "law.go:210", after := #[{ on := 9, ground := Ground.guard }], guard := some (9, true) }) (v := ?_) rfl (by kernel_rfl) (by kernel_rfl) (by kernel_rfl) (fun _ _ _ h => h) (Or.inl ⟨by rfl, ?hy15⟩) hS0 ?_
        case hy15 => (intro V hSw; (try dsimp only at hSw); clear hSw; go_simp; try with_reducible rfl)
        try simp only [Act.put, List.setIfInBounds_toArray, List.set_cons_zero, List.set_cons_succ]
        refine wpAnyH_take (i := 15) (oi := { dst := some 103, op := Op.load 61 (Operand.tmp 102), type := 61, pos := "law.go:210", after := #[{ on := 14, ground := Ground.data }, { on := 9, ground := Ground.guard }], guard := some (9, true) }) (v := ?_) rfl (by kernel_rfl) (by kernel_rfl) (by kernel_rfl) (fun _ _ _ h => h) (Or.inl ⟨by rfl, ?hy16⟩) hS0 ?_
        case hy16 => (intro V hSw; (try dsimp only at hSw); have q0 := grow_cell hSw.out (block_lt_of_cell z0) z0; have q1 := grow_cell hSw.out (block_lt_of_cell z1) z1; have q2 := grow_cell hSw.out (block_lt_of_cell z2) z2; have q3 := grow_cell hSw.out (block_lt_of_cell z3) z3; have q4 := grow_cell hSw.out (block_lt_of_cell z4) z4; have q5 := grow_cell hSw.out (block_lt_of_cell s0) s0; have q6 := grow_cell hSw.out (block_lt_of_cell s1) s1; have q7 := grow_cell hSw.out (block_lt_of_cell s2) s2; have q8 := grow_cell hSw.out (block_lt_of_cell s3) s3; have q9 := grow_cell hSw.out (block_lt_of_cell s4) s4; have q10 := grow_cell hSw.out (block_lt_of_cell s5) s5; clear hSw; go_simp; try with_reducible rfl)
        try simp only [Act.put, List.setIfInBounds_toArray, List.set_cons_zero, List.set_cons_succ]
        refine wpAnyH_ready (rs := [16]) (by kernel_rfl) (by simp) (AllReadyH.cons rfl (fun K hK => ?_) AllReadyH.nil)
        go_simp
        refine (HTab.out _ hS0.out).mono ?_
        rintro e wv17 ⟨ta17, tc17, rfl, hv17⟩
        have hS17 := Lib.hid (hS0.out.trans (hv17.mono hS0.out.size))
        clear hv17
        refine hK.out _ _ hS17 (fun _ => ?_)
        clear hK K
        try simp only [Act.put, List.setIfInBounds_toArray, List.set_cons_zero, List.set_cons_succ]
        refine wpAnyH_take (i := 17) (oi := { dst := some 105, op := Op.call { callee := Callee.builtin Builtin.len, args := #[Operand.tmp 104], argTypes := #[58] }, type := 3, pos := "law.go:210", after := #[{ on := 16, ground := Ground.data }, { on := 9, ground := Ground.guard }], guard := some (9, true) }) (v := ?_) rfl (by kernel_rfl) (by kernel_rfl) (by kernel_rfl) (fun _ _ _ h => h) (Or.inl ⟨by rfl, ?hy18⟩) hS17 ?_
        case hy18 => (intro V hSw; (try dsimp only at hSw); clear hSw; go_simp; try with_reducible rfl)
        try simp only [Act.put, List.setIfInBounds_toArray, List.set_cons_zero, List.set_cons_succ]
        refine wpAnyH_take (i := 18) (oi := { dst := some 106, op := Op.binOp BinOp.eql 3 (Operand.tmp 101) (Operand.tmp 105) 3, type := 4, pos := "law.go:210", after := #[{ on := 13, ground := Ground.data }, { on := 17, ground := Ground.data }, { on := 9, ground := Ground.guard }], guard := some (9, true) }) (v := ?_) rfl (by kernel_rfl) (by kernel_rfl) (by kernel_rfl) (fun _ _ _ h => h) (Or.inl ⟨by rfl, ?hy19⟩) hS17 ?_
        case hy19 => (intro V hSw; (try dsimp only at hSw); clear hSw; go_simp; try with_reducible rfl)
        try simp only [Act.put, List.setIfInBounds_toArray, List.set_cons_zero, List.set_cons_succ]
        refine wpAnyH_take (i := 19) (oi := { dst := some 107, op := Op.pick (Operand.tmp 97) (Operand.tmp 106) (Operand.const (Value.bool false)), type := 4, pos := "law.go:210", after := #[{ on := 9, ground := Ground.data }, { on := 18, ground := Ground.data }], guard := none }) (v := ?_) rfl (by kernel_rfl) (by kernel_rfl) (by kernel_rfl) (fun _ _ _ h => h) (Or.inl ⟨by rfl, ?hy20⟩) hS17 ?_
        case hy20 => (intro V hSw; (try dsimp only at hSw); clear hSw; go_simp; try with_reducible rfl)
        try simp only [Act.put, List.setIfInBounds_toArray, List.set_cons_zero, List.set_cons_succ]
        refine wpAnyH_take (i := 20) (oi := { dst := some 108, op := Op.move (Operand.tmp 107), type := 4, pos := "law.go:210", after := #[{ on := 19, ground := Ground.data }, { on := 16, ground := Ground.chain }], guard := none }) (v := ?_) rfl (by kernel_rfl) (by kernel_rfl) (by kernel_rfl) (fun _ _ _ h => h) (Or.inl ⟨by rfl, ?hy21⟩) hS17 ?_
        case hy21 => (intro V hSw; (try dsimp only at hSw); clear hSw; go_simp; try with_reducible rfl)
        try simp only [Act.put, List.setIfInBounds_toArray, List.set_cons_zero, List.set_cons_succ]
        refine wpAnyH_take (i := 21) (oi := { dst := some 109, op := Op.fieldAddr 27 (Operand.tmp 15) 1, type := 0, pos := "law.go:210", after := #[{ on := 20, ground := Ground.guard }], guard := some (20, true) }) (v := ?_) rfl (by kernel_rfl) (by kernel_rfl) (by kernel_rfl) (fun _ _ _ h => h) (Or.inl ⟨by rfl, ?hy22⟩) hS17 ?_
        case hy22 => (intro V hSw; (try dsimp only at hSw); clear hSw; go_simp; try with_reducible rfl)
        try simp only [Act.put, List.setIfInBounds_toArray, List.set_cons_zero, List.set_cons_succ]
        refine wpAnyH_take (i := 22) (oi := { dst := some 110, op := Op.load 3 (Operand.tmp 109), type := 3, pos := "law.go:210", after := #[{ on := 21, ground := Ground.data }, { on := 20, ground := Ground.guard }], guard := some (20, true) }) (v := ?_) rfl (by kernel_rfl) (by kernel_rfl) (by kernel_rfl) (fun _ _ _ h => h) (Or.inl ⟨by rfl, ?hy23⟩) hS17 ?_
        case hy23 => (intro V hSw; (try dsimp only at hSw); have q0 := grow_cell hSw.out (block_lt_of_cell z0) z0; have q1 := grow_cell hSw.out (block_lt_of_cell z1) z1; have q2 := grow_cell hSw.out (block_lt_of_cell z2) z2; have q3 := grow_cell hSw.out (block_lt_of_cell z3) z3; have q4 := grow_cell hSw.out (block_lt_of_cell z4) z4; have q5 := grow_cell hSw.out (block_lt_of_cell s0) s0; have q6 := grow_cell hSw.out (block_lt_of_cell s1) s1; have q7 := grow_cell hSw.out (block_lt_of_cell s2) s2; have q8 := grow_cell hSw.out (block_lt_of_cell s3) s3; have q9 := grow_cell hSw.out (block_lt_of_cell s4) s4; have q10 := grow_cell hSw.out (block_lt_of_cell s5) s5; clear hSw; go_simp; try with_reducible rfl)
        try simp only [Act.put, List.setIfInBounds_toArray, List.set_cons_zero, List.set_cons_succ]
        refine wpAnyH_take (i := 23) (oi := { dst := some 111, op := Op.fieldAddr 63 (Operand.tmp 5) 1, type := 0, pos := "law.go:210", after := #[{ on := 20, ground := Ground.guard }], guard := some (20, true) }) (v := ?_) rfl (by kernel_rfl) (by kernel_rfl) (by kernel_rfl) (fun _ _ _ h => h) (Or.inl ⟨by rfl, ?hy24⟩) hS17 ?_
        case hy24 => (intro V hSw; (try dsimp only at hSw); clear hSw; go_simp; try with_reducible rfl)
        try simp only [Act.put, List.setIfInBounds_toArray, List.set_cons_zero, List.set_cons_succ]
        refine wpAnyH_take (i := 24) (oi := { dst := some 112, op := Op.load 3 (Operand.tmp 111), type := 3, pos := "law.go:210", after := #[{ on := 23, ground := Ground.data }, { on := 20, ground := Ground.guard }], guard := some (20, true) }) (v := ?_) rfl (by kernel_rfl) (by kernel_rfl) (by kernel_rfl) (fun _ _ _ h => h) (Or.inl ⟨by rfl, ?hy25⟩) hS17 ?_
        case hy25 => (intro V hSw; (try dsimp only at hSw); have q0 := grow_cell hSw.out (block_lt_of_cell z0) z0; have q1 := grow_cell hSw.out (block_lt_of_cell z1) z1; have q2 := grow_cell hSw.out (block_lt_of_cell z2) z2; have q3 := grow_cell hSw.out (block_lt_of_cell z3) z3; have q4 := grow_cell hSw.out (block_lt_of_cell z4) z4; have q5 := grow_cell hSw.out (block_lt_of_cell s0) s0; have q6 := grow_cell hSw.out (block_lt_of_cell s1) s1; have q7 := grow_cell hSw.out (block_lt_of_cell s2) s2; have q8 := grow_cell hSw.out (block_lt_of_cell s3) s3; have q9 := grow_cell hSw.out (block_lt_of_cell s4) s4; have q10 := grow_cell hSw.out (block_lt_of_cell s5) s5; clear hSw; go_simp; try with_reducible rfl)
        try simp only [Act.put, List.setIfInBounds_toArray, List.set_cons_zero, List.set_cons_succ]
        refine wpAnyH_take (i := 25) (oi := { dst := some 113, op := Op.binOp BinOp.eql 3 (Operand.tmp 110) (Operand.tmp 112) 3, type := 4, pos := "law.go:210", after := #[{ on := 22, ground := Ground.data }, { on := 24, ground := Ground.data }, { on := 20, ground := Ground.guard }], guard := some (20, true) }) (v := ?_) rfl (by kernel_rfl) (by kernel_rfl) (by kernel_rfl) (fun _ _ _ h => h) (Or.inl ⟨by rfl, ?hy26⟩) hS17 ?_
        case hy26 => (intro V hSw; (try dsimp only at hSw); clear hSw; go_simp; try with_reducible rfl)
        try simp only [Act.put, List.setIfInBounds_toArray, List.set_cons_zero, List.set_cons_succ]
        refine wpAnyH_take (i := 26) (oi := { dst := some 114, op := Op.pick (Operand.tmp 108) (Operand.tmp 113) (Operand.const (Value.bool false)), type := 4, pos := "law.go:210", after := #[{ on := 20, ground := Ground.data }, { on := 25, ground := Ground.data }], guard := none }) (v := ?_) rfl (by kernel_rfl) (by kernel_rfl) (by kernel_rfl) (fun _ _ _ h => h) (Or.inl ⟨by rfl, ?hy27⟩) hS17 ?_
        case hy27 => (intro V hSw; (try dsimp only at hSw); clear hSw; go_simp; try with_reducible rfl)
        try simp only [Act.put, List.setIfInBounds_toArray, List.set_cons_zero, List.set_cons_succ]
        refine wpAnyH_take (i := 27) (oi := { dst := some 115, op := Op.move (Operand.tmp 114), type := 4, pos := "law.go:210", after := #[{ on := 26, ground := Ground.data }, { on := 20, ground := Ground.chain }], guard := none }) (v := ?_) rfl (by kernel_rfl) (by kernel_rfl) (by kernel_rfl) (fun _ _ _ h => h) (Or.inl ⟨by rfl, ?hy28⟩) hS17 ?_
        case hy28 => (intro V hSw; (try dsimp only at hSw); clear hSw; go_simp; try with_reducible rfl)
        try simp only [Act.put, List.setIfInBounds_toArray, List.set_cons_zero, List.set_cons_succ]
        refine wpAnyH_take (i := 28) (oi := { dst := some 116, op := Op.fieldAddr 27 (Operand.tmp 15) 2, type := 0, pos := "law.go:210", after := #[{ on := 27, ground := Ground.guard }], guard := some (27, true) }) (v := ?_) rfl (by kernel_rfl) (by kernel_rfl) (by kernel_rfl) (fun _ _ _ h => h) (Or.inl ⟨by rfl, ?hy29⟩) hS17 ?_
        case hy29 => (intro V hSw; (try dsimp only at hSw); clear hSw; go_simp; try with_reducible rfl)
        try simp only [Act.put, List.setIfInBounds_toArray, List.set_cons_zero, List.set_cons_succ]
        refine wpAnyH_take (i := 29) (oi := { dst := some 117, op := Op.load 22 (Operand.tmp 116), type := 22, pos := "law.go:210", after := #[{ on := 28, ground := Ground.data }, { on := 27, ground := Ground.guard }], guard := some (27, true) }) (v := ?_) rfl (by kernel_rfl) (by kernel_rfl) (by kernel_rfl) (fun _ _ _ h => h) (Or.inl ⟨by rfl, ?hy30⟩) hS17 ?_
        case hy30 => (intro V hSw; (try dsimp only at hSw); have q0 := grow_cell hSw.out (block_lt_of_cell z0) z0; have q1 := grow_cell hSw.out (block_lt_of_cell z1) z1; have q2 := grow_cell hSw.out (block_lt_of_cell z2) z2; have q3 := grow_cell hSw.out (block_lt_of_cell z3) z3; have q4 := grow_cell hSw.out (block_lt_of_cell z4) z4; have q5 := grow_cell hSw.out (block_lt_of_cell s0) s0; have q6 := grow_cell hSw.out (block_lt_of_cell s1) s1; have q7 := grow_cell hSw.out (block_lt_of_cell s2) s2; have q8 := grow_cell hSw.out (block_lt_of_cell s3) s3; have q9 := grow_cell hSw.out (block_lt_of_cell s4) s4; have q10 := grow_cell hSw.out (block_lt_of_cell s5) s5; clear hSw; go_simp; try with_reducible rfl)
        try simp only [Act.put, List.setIfInBounds_toArray, List.set_cons_zero, List.set_cons_succ]
        refine wpAnyH_take (i := 30) (oi := { dst := some 118, op := Op.fieldAddr 63 (Operand.tmp 5) 2, type := 0, pos := "law.go:210", after := #[{ on := 27, ground := Ground.guard }], guard := some (27, true) }) (v := ?_) rfl (by kernel_rfl) (by kernel_rfl) (by kernel_rfl) (fun _ _ _ h => h) (Or.inl ⟨by rfl, ?hy31⟩) hS17 ?_
        case hy31 => (intro V hSw; (try dsimp only at hSw); clear hSw; go_simp; try with_reducible rfl)
        try simp only [Act.put, List.setIfInBounds_toArray, List.set_cons_zero, List.set_cons_succ]
        refine wpAnyH_take (i := 31) (oi := { dst := some 119, op := Op.load 22 (Operand.tmp 118), type := 22, pos := "law.go:210", after := #[{ on := 30, ground := Ground.data }, { on := 27, ground := Ground.guard }], guard := some (27, true) }) (v := ?_) rfl (by kernel_rfl) (by kernel_rfl) (by kernel_rfl) (fun _ _ _ h => h) (Or.inl ⟨by rfl, ?hy32⟩) hS17 ?_
        case hy32 => (intro V hSw; (try dsimp only at hSw); have q0 := grow_cell hSw.out (block_lt_of_cell z0) z0; have q1 := grow_cell hSw.out (block_lt_of_cell z1) z1; have q2 := grow_cell hSw.out (block_lt_of_cell z2) z2; have q3 := grow_cell hSw.out (block_lt_of_cell z3) z3; have q4 := grow_cell hSw.out (block_lt_of_cell z4) z4; have q5 := grow_cell hSw.out (block_lt_of_cell s0) s0; have q6 := grow_cell hSw.out (block_lt_of_cell s1) s1; have q7 := grow_cell hSw.out (block_lt_of_cell s2) s2; have q8 := grow_cell hSw.out (block_lt_of_cell s3) s3; have q9 := grow_cell hSw.out (block_lt_of_cell s4) s4; have q10 := grow_cell hSw.out (block_lt_of_cell s5) s5; clear hSw; go_simp; try with_reducible rfl)
        try simp only [Act.put, List.setIfInBounds_toArray, List.set_cons_zero, List.set_cons_succ]
        refine wpAnyH_ready (rs := [32]) (by kernel_rfl) (by simp) (AllReadyH.cons rfl (fun K hK => ?_) AllReadyH.nil)
        go_simp
        refine (HIn.out _ hS17.out).mono ?_
        rintro e wv33 ⟨rfl, hv33⟩
        have hS33 := Lib.hid (hS17.out.trans (hv33.mono hS17.out.size))
        clear hv33
        refine hK.out _ _ hS33 (fun _ => ?_)
        clear hK K
        try simp only [Act.put, List.setIfInBounds_toArray, List.set_cons_zero, List.set_cons_succ]
        refine wpAnyH_take (i := 33) (oi := { dst := some 121, op := Op.pick (Operand.tmp 115) (Operand.tmp 120) (Operand.const (Value.bool false)), type := 4, pos := "law.go:210", after := #[{ on := 27, ground := Ground.data }, { on := 32, ground := Ground.data }], guard := none }) (v := ?_) rfl (by kernel_rfl) (by kernel_rfl) (by kernel_rfl) (fun _ _ _ h => h) (Or.inl ⟨by rfl, ?hy34⟩) hS33 ?_
        case hy34 => (intro V hSw; (try dsimp only at hSw); clear hSw; go_simp; try with_reducible rfl)
        try simp only [Act.put, List.setIfInBounds_toArray, List.set_cons_zero, List.set_cons_succ]
        refine wpAnyH_take (i := 34) (oi := { dst := some 122, op := Op.move (Operand.tmp 121), type := 4, pos := "law.go:210", after := #[{ on := 33, ground := Ground.data }, { on := 32, ground := Ground.chain }], guard := none }) (v := ?_) rfl (by kernel_rfl) (by kernel_rfl) (by kernel_rfl) (fun _ _ _ h => h) (Or.inl ⟨by rfl, ?hy35⟩) hS33 ?_
        case hy35 => (intro V hSw; (try dsimp only at hSw); clear hSw; go_simp; try with_reducible rfl)
        try simp only [Act.put, List.setIfInBounds_toArray, List.set_cons_zero, List.set_cons_succ]
        refine wpAnyH_ready (rs := [35]) (by kernel_rfl) (by simp) (AllReadyH.cons rfl (fun K hK => ?_) AllReadyH.nil)
        go_simp
        refine (Haw.out _).mono ?_
        rintro e wv36 ⟨rfl, hv36⟩
        have hS36 := Lib.hid (hS33.out.trans (hv36.mono hS33.out.size))
        clear hv36
        refine hK.out _ _ hS36 (fun _ => ?_)
        clear hK K
        try simp only [Act.put, List.setIfInBounds_toArray, List.set_cons_zero, List.set_cons_succ]
        refine wpAnyH_take (i := 36) (oi := { dst := some 124, op := Op.pick (Operand.tmp 122) (Operand.tmp 123) (Operand.const (Value.bool false)), type := 4, pos := "law.go:210", after := #[{ on := 34, ground := Ground.data }, { on := 35, ground := Ground.data }], guard := none }) (v := ?_) rfl (by kernel_rfl) (by kernel_rfl) (by kernel_rfl) (fun _ _ _ h => h) (Or.inl ⟨by rfl, ?hy37⟩) hS36 ?_
        case hy37 => (intro V hSw; (try dsimp only at hSw); clear hSw; go_simp; try with_reducible rfl)
        try simp only [Act.put, List.setIfInBounds_toArray, List.set_cons_zero, List.set_cons_succ]
        refine wpAnyH_ready (rs := [37]) (by kernel_rfl) (by simp) (AllReadyH.cons rfl (fun K hK => ?_) AllReadyH.nil)
        go_simp
        refine hK.out _ _ hS36 (fun _ => ?_)
        clear hK K
        try simp only [Act.put, List.setIfInBounds_toArray, List.set_cons_zero, List.set_cons_succ]
        refine wpAnyH_done (by kernel_rfl) ?_ _
        go_wp2_with fail
        go_ret
        exact ⟨rfl, HB9.out.trans (hS36.out.mono HB9.out.size)⟩
      · skip
        obtain ⟨pu0, pm0, pk0, pu1, pm1, pk1, pu2, pm2, pk2, pu3, pm3, pk3, pe0, pe1, pe2, pe3⟩ := vn_slices hoU
        obtain ⟨pgn, phg⟩ : ∃ q, q = ls.length := ⟨_, rfl⟩
        have phgz := hzU
        rw [OwnZ, ← phg] at phgz
        obtain ⟨pga, pgc, rfl⟩ := own_slice phgz
        clear phgz phg
        rw [pe0, pe1, pe2, pe3]
        have hA : Below w4.heap.size w4 (w4.alloc (.cells #[.slice pu0 pm0 pk0, .slice pu1 pm1 pk1, .slice pu2 pm2 pk2, .slice pu3 pm3 pk3, .int .i64 s, .slice pga pgn pgc] 63)) := (Below.refl _ _).alloc (Nat.le_refl _) _
        have Hsv5 := Lib.hid (Hsv4.out.below hA)
        have HK5 := Lib.hid (blk_bels hA HK4.out)
        have HKe5 := Lib.hid (blk_bels hA HKe4.out)
        have HKp5 := Lib.hid (blk_of_alloc w4 (.cells #[.slice pu0 pm0 pk0, .slice pu1 pm1 pk1, .slice pu2 pm2 pk2, .slice pu3 pm3 pk3, .int .i64 s, .slice pga pgn pgc] 63))
        have HoP := Lib.hid (hoU.below hA)
        have HzP := Lib.hid (own_below hzU hA)
        obtain ⟨pb, hpb⟩ : ∃ q, q = w4.heap.size := ⟨_, rfl⟩
        rw [← hpb] at HKp5
        have Hpb := Lib.hid hpb
        have HlP := Lib.hid hlU
        have Hhh := Lib.hid (And.intro hrk hapl)
        have Hp0e := Lib.hid pe0
        have Hp1e := Lib.hid pe1
        have Hp2e := Lib.hid pe2
        have Hp3e := Lib.hid pe3
        clear hb4 hA hpb hoU hlU hvU hzU hsU hapl hrk pe0 pe1 pe2 pe3 Hsv4 HK4 HKe4
        go_upto_region 16 with fail
        rw [← Hpb.out]
        generalize w4.alloc (.cells #[.slice pu0 pm0 pk0, .slice pu1 pm1 pk1, .slice pu2 pm2 pk2, .slice pu3 pm3 pk3, .int .i64 s, .slice pga pgn pgc] 63) = w5 at *
        have hap := sapply_any Vn.none 0 (.slice none 0 0) ⟨_, _, _, rfl⟩ true s _ _ _ ls ad dr w5 (ownVn_none _ 0).isVn rfl (Nat.zero_le _) (fun p hp => by cases hp) (HL.out.below Hsv5.out.bw) (HD.out.below Hsv5.out.bw) (pl_bel HP.out Hsv5.out.bw) (by have := Hsb.out.2.2.1; omega) (fun p hp => by have := (Hsb.out.1 p hp).1; omega)
        have Hap := Lib.hid (show Calls Try.prog 23 #[.agg #[.slice none 0 0, .slice none 0 0, .slice none 0 0, .slice none 0 0, .int .i64 0, .slice none 0 0], .agg #[.bool true, .int .i64 s, .slice la nl lc, .slice aa na ac, .slice da nd dc]] w5 _ from hap)
        clear hap
        have b0 : w5.cell? ⟨ob, 0, none⟩ = some (.bool true) := by rw [cell_blkR HK5.out]; rfl
        have b1 : w5.cell? ⟨ob, 1, none⟩ = some (.int .i64 s) := by rw [cell_blkR HK5.out]; rfl
        have b2 : w5.cell? ⟨ob, 2, none⟩ = some (.slice la nl lc) := by rw [cell_blkR HK5.out]; rfl
        have b3 : w5.cell? ⟨ob, 3, none⟩ = some (.slice aa na ac) := by rw [cell_blkR HK5.out]; rfl
        have b4 : w5.cell? ⟨ob, 4, none⟩ = some (.slice da nd dc) := by rw [cell_blkR HK5.out]; rfl
        have s0 : w5.cell? ⟨eb, 0, none⟩ = some (.slice none 0 0) := by rw [cell_blkR HKe5.out]; rfl
        have s1 : w5.cell? ⟨eb, 1, none⟩ = some (.slice none 0 0) := by rw [cell_blkR HKe5.out]; rfl
        have s2 : w5.cell? ⟨eb, 2, none⟩ = some (.slice none 0 0) := by rw [cell_blkR HKe5.out]; rfl
        have s3 : w5.cell? ⟨eb, 3, none⟩ = some (.slice none 0 0) := by rw [cell_blkR HKe5.out]; rfl
        have s4 : w5.cell? ⟨eb, 4, none⟩ = some (.int .i64 0) := by rw [cell_blkR HKe5.out]; rfl
        have s5 : w5.cell? ⟨eb, 5, none⟩ = some (.slice none 0 0) := by rw [cell_blkR HKe5.out]; rfl
        go_wp2_with fail
        refine Hap.out.mono ?_
        rintro e w6 hout
        obtain ⟨hb6, hc⟩ := stOut_two hout
        have Hsv6 := Lib.hid (Hsv5.out.below hb6)
        have HKp6 := Lib.hid (blk_bels hb6 HKp5.out)
        have HoP6 := Lib.hid (HoP.out.below hb6)
        have HzP6 := Lib.hid (own_below HzP.out hb6)
        clear HKp5 HoP HzP
        clear hout hb6 b0 b1 b2 b3 b4 s0 s1 s2 s3 s4 s5 Hap HK5 HKe5 Hsv5
        rcases hc with ⟨c', hc2', -, hno', hcf', hct', rfl⟩ | ⟨L'', U'', vg'', hrk', hapl', rfl, hoW, hlW, -, hzW, -⟩
        · exfalso
          unfold stP at hno'
          rw [if_pos Hhh.out.1] at hno'
          have h2 : applyP (lvOf Vn.none.l) dr (psM ad) = some L' := Hhh.out.2
          have h3 : applyP (lvOf Vn.none.l) dr (psM ad) = none := hno'
          rw [h2] at h3
          cases h3
        have hLL : L' = L'' := by
          have h2 : applyP (lvOf Vn.none.l) dr (psM ad) = some L' := Hhh.out.2
          have h3 : applyP (lvOf Vn.none.l) dr (psM ad) = some L'' := hapl'
          rw [h2] at h3
          injection h3
        have Hlq : Hid (LvE (lvOf U'.l) (lvOf U''.l)) := Lib.hid (by rw [← hLL] at hlW; exact HlP.out.trans hlW.symm)
        obtain ⟨wu0, wm0, wk0, wu1, wm1, wk1, wu2, wm2, wk2, wu3, wm3, wk3, we0, we1, we2, we3⟩ := vn_slices hoW
        obtain ⟨wgn, whg⟩ : ∃ q, q = ls.length := ⟨_, rfl⟩
        have whgz := hzW
        rw [OwnZ, ← whg] at whgz
        obtain ⟨wga, wgc, rfl⟩ := own_slice whgz
        clear whgz whg
        rw [we0, we1, we2, we3]
        have hA : Below w6.heap.size w6 (w6.alloc (.cells #[.slice wu0 wm0 wk0, .slice wu1 wm1 wk1, .slice wu2 wm2 wk2, .slice wu3 wm3 wk3, .int .i64 s, .slice wga wgn wgc] 63)) := (Below.refl _ _).alloc (Nat.le_refl _) _
        have Hsv7 := Lib.hid (Hsv6.out.below hA)
        have HKp7 := Lib.hid (blk_bels hA HKp6.out)
        have HKw7 := Lib.hid (blk_of_alloc w6 (.cells #[.slice wu0 wm0 wk0, .slice wu1 wm1 wk1, .slice wu2 wm2 wk2, .slice wu3 wm3 wk3, .int .i64 s, .slice wga wgn wgc] 63))
        obtain ⟨wb, hwb⟩ : ∃ q, q = w6.heap.size := ⟨_, rfl⟩
        rw [← hwb] at HKw7
        have Hwb := Lib.hid hwb
        have heq := vequal_yes U' U'' _ (HoP6.out.isVn.below hA) (hoW.isVn.below hA) Hlq.out
        unfold Vn.cells at heq
        rw [Hp0e.out, Hp1e.out, Hp2e.out, Hp3e.out, we0, we1, we2, we3] at heq
        have Heq := Lib.hid heq
        have HzPa := Lib.hid (show IsZs _ (.slice pga pgn pgc) ls from isSl_own zzC_len (own_below HzP6.out hA))
        have HzWa := Lib.hid (show IsZs _ (.slice wga wgn wgc) ls from isSl_own zzC_len (own_below hzW hA))
        clear hLL hA hwb hoW hlW hzW hapl' hrk' we0 we1 we2 we3 heq Hsv6 HKp6
        go_upto_region 19 with fail
        rw [← Hwb.out]
        generalize w6.alloc (.cells #[.slice wu0 wm0 wk0, .slice wu1 wm1 wk1, .slice wu2 wm2 wk2, .slice wu3 wm3 wk3, .int .i64 s, .slice wga wgn wgc] 63) = w7 at *
        have p0 : w7.cell? ⟨pb, 0, none⟩ = some (.slice pu0 pm0 pk0) := by rw [cell_blkR HKp7.out]; rfl
        have p1 : w7.cell? ⟨pb, 1, none⟩ = some (.slice pu1 pm1 pk1) := by rw [cell_blkR HKp7.out]; rfl
        have p2 : w7.cell? ⟨pb, 2, none⟩ = some (.slice pu2 pm2 pk2) := by rw [cell_blkR HKp7.out]; rfl
        have p3 : w7.cell? ⟨pb, 3, none⟩ = some (.slice pu3 pm3 pk3) := by rw [cell_blkR HKp7.out]; rfl
        have p4 : w7.cell? ⟨pb, 4, none⟩ = some (.int .i64 s) := by rw [cell_blkR HKp7.out]; rfl
        have p5 : w7.cell? ⟨pb, 5, none⟩ = some (.slice pga pgn pgc) := by rw [cell_blkR HKp7.out]; rfl
        have t0 : w7.cell? ⟨wb, 0, none⟩ = some (.slice wu0 wm0 wk0) := by rw [cell_blkR HKw7.out]; rfl
        have t1 : w7.cell? ⟨wb, 1, none⟩ = some (.slice wu1 wm1 wk1) := by rw [cell_blkR HKw7.out]; rfl
        have t2 : w7.cell? ⟨wb, 2, none⟩ = some (.slice wu2 wm2 wk2) := by rw [cell_blkR HKw7.out]; rfl
        have t3 : w7.cell? ⟨wb, 3, none⟩ = some (.slice wu3 wm3 wk3) := by rw [cell_blkR HKw7.out]; rfl
        have t4 : w7.cell? ⟨wb, 4, none⟩ = some (.int .i64 s) := by rw [cell_blkR HKw7.out]; rfl
        have t5 : w7.cell? ⟨wb, 5, none⟩ = some (.slice wga wgn wgc) := by rw [cell_blkR HKw7.out]; rfl
        go_wp2_with fail
        refine Heq.out.mono ?_
        rintro e w8 ⟨rfl, hb8⟩
        have Hsv8 := Lib.hid (Hsv7.out.below hb8)
        have hin := ints_any (.slice pga pgn pgc) (.slice wga wgn wgc) ls ls w8 (HzPa.out.below hb8) (HzWa.out.below hb8)
        rw [decide_eq_true rfl] at hin
        have Hin := Lib.hid hin
        have HKp8 := blk_bels hb8 HKp7.out
        have HKw8 := blk_bels hb8 HKw7.out
        clear hb8 hin Hsv7 HKp7 HKw7 HzPa HzWa Heq p0 p1 p2 p3 p4 p5 t0 t1 t2 t3 t4 t5
        have p0 : w8.cell? ⟨pb, 0, none⟩ = some (.slice pu0 pm0 pk0) := by rw [cell_blkR HKp8]; rfl
        have p1 : w8.cell? ⟨pb, 1, none⟩ = some (.slice pu1 pm1 pk1) := by rw [cell_blkR HKp8]; rfl
        have p2 : w8.cell? ⟨pb, 2, none⟩ = some (.slice pu2 pm2 pk2) := by rw [cell_blkR HKp8]; rfl
        have p3 : w8.cell? ⟨pb, 3, none⟩ = some (.slice pu3 pm3 pk3) := by rw [cell_blkR HKp8]; rfl
        have p4 : w8.cell? ⟨pb, 4, none⟩ = some (.int .i64 s) := by rw [cell_blkR HKp8]; rfl
        have p5 : w8.cell? ⟨pb, 5, none⟩ = some (.slice pga pgn pgc) := by rw [cell_blkR HKp8]; rfl
        have t0 : w8.cell? ⟨wb, 0, none⟩ = some (.slice wu0 wm0 wk0) := by rw [cell_blkR HKw8]; rfl
        have t1 : w8.cell? ⟨wb, 1, none⟩ = some (.slice wu1 wm1 wk1) := by rw [cell_blkR HKw8]; rfl
        have t2 : w8.cell? ⟨wb, 2, none⟩ = some (.slice wu2 wm2 wk2) := by rw [cell_blkR HKw8]; rfl
        have t3 : w8.cell? ⟨wb, 3, none⟩ = some (.slice wu3 wm3 wk3) := by rw [cell_blkR HKw8]; rfl
        have t4 : w8.cell? ⟨wb, 4, none⟩ = some (.int .i64 s) := by rw [cell_blkR HKw8]; rfl
        have t5 : w8.cell? ⟨wb, 5, none⟩ = some (.slice wga wgn wgc) := by rw [cell_blkR HKw8]; rfl
        clear HKp8 HKw8
        go_wp2_with fail
        refine Hin.out.mono ?_
        rintro e w9 ⟨rfl, hb9⟩
        have Hsv9 := Lib.hid (Hsv8.out.below hb9)
        clear hb9 Hin Hsv8 p0 p1 p2 p3 p4 p5 t0 t1 t2 t3 t4 t5
        go_upto_region 21 with fail
        have hwh := swhole_any U q (.slice ga gn gc) lg w9 Hsv9.out.own.isVn Hsv9.out.small.1 Hsv9.out.small.2 (isSl_own zzC_len Hsv9.out.lgs) Hsv9.out.logs
        have hblk := Hsv9.out.blk
        rw [e0, e1, e2, e3] at hwh hblk
        have Hwh := Lib.hid hwh
        have s0 : w9.cell? ⟨sb, 0, none⟩ = some (.slice u0 m0 k0) := by rw [cell_blkR hblk]; rfl
        have s1 : w9.cell? ⟨sb, 1, none⟩ = some (.slice u1 m1 k1) := by rw [cell_blkR hblk]; rfl
        have s2 : w9.cell? ⟨sb, 2, none⟩ = some (.slice u2 m2 k2) := by rw [cell_blkR hblk]; rfl
        have s3 : w9.cell? ⟨sb, 3, none⟩ = some (.slice u3 m3 k3) := by rw [cell_blkR hblk]; rfl
        have s4 : w9.cell? ⟨sb, 4, none⟩ = some (.int .i64 q) := by rw [cell_blkR hblk]; rfl
        have s5 : w9.cell? ⟨sb, 5, none⟩ = some (.slice ga gn gc) := by rw [cell_blkR hblk]; rfl
        clear hwh hblk
        go_wp2_with fail
        refine Hwh.out.mono ?_
        rintro e wq ⟨zvl, zva, zad, rfl, hzp, hzo, hzz, hbq⟩
        have Hsvq := Lib.hid (Hsv9.out.below hbq)
        obtain ⟨zn, hzn⟩ : ∃ q, q = zad.length := ⟨_, rfl⟩
        have hzo1 := hzo.1
        rw [← hzn] at hzo1
        obtain ⟨xa, xc, rfl⟩ := own_slice hzo1
        obtain ⟨yn, hyn⟩ : ∃ q, q = lg.length := ⟨_, rfl⟩
        have hzz1 := hzz
        rw [OwnZ, ← hyn] at hzz1
        obtain ⟨ya, yc, rfl⟩ := own_slice hzz1
        have hzt : (tabs U.l 4).length = zn := by
          have h1 := congrArg List.length hzp
          unfold psM at h1
          rw [List.length_map, whP_len] at h1
          omega
        have hA : Below wq.heap.size wq (wq.alloc (.cells #[.bool true, .int .i64 q, .slice ya yn yc, .slice xa zn xc, .slice none 0 0] 27)) := (Below.refl _ _).alloc (Nat.le_refl _) _
        have Hsvz := Lib.hid (Hsvq.out.below hA)
        have Hyz := Lib.hid (show IsZs (wq.alloc (.cells #[.bool true, .int .i64 q, .slice ya yn yc, .slice xa zn xc, .slice none 0 0] 27)) (.slice ya yn yc) lg from (isSl_own zzC_len hzz : IsZs wq _ lg).below hA)
        have HKz := Lib.hid (blk_of_alloc wq (.cells #[.bool true, .int .i64 q, .slice ya yn yc, .slice xa zn xc, .slice none 0 0] 27))
        obtain ⟨zb, hzb⟩ : ∃ q, q = wq.heap.size := ⟨_, rfl⟩
        rw [← hzb] at HKz
        have Hzb := Lib.hid hzb
        have Hzt := Lib.hid hzt
        clear hzn hzo1 hyn hzz1 hzp hzo hzz hbq hA hzb hzt Hsvq Hwh s0 s1 s2 s3 s4 s5
        go_upto_region 22 with fail
        rw [← Hzb.out]
        generalize wq.alloc (.cells #[.bool true, .int .i64 q, .slice ya yn yc, .slice xa zn xc, .slice none 0 0] 27) = W9 at *
        have HB9 := Lib.hid Hsvz.out.bw
        have hblk := Hsvz.out.blk
        rw [e0, e1, e2, e3] at hblk
        have HTab : Hid (∀ X : World, Below W9.heap.size W9 X → Calls Try.prog 28 #[.agg #[.slice u0 m0 k0, .slice u1 m1 k1, .slice u2 m2 k2, .slice u3 m3 k3]] X fun e w' => ∃ ta tc, e = .returned (.slice ta zn tc) ∧ Below X.heap.size X w') := Lib.hid (fun X hX => by
          have h := tables_any U X (Hsvz.out.own.isVn.below hX) Hsvz.out.small.1 Hsvz.out.small.2
          unfold Vn.cells at h
          rw [e0, e1, e2, e3] at h
          refine h.mono ?_
          rintro e w' ⟨x, rows, rfl, hx, hr, hb⟩
          have h2 := congrArg List.length hr
          rw [List.length_map, List.length_map, Hzt.out] at h2
          have h3 := hx.1
          rw [h2] at h3
          obtain ⟨ta, tc, rfl⟩ := own_slice h3
          exact ⟨ta, tc, rfl, hb⟩)
        have HIn : Hid (∀ X : World, Below W9.heap.size W9 X → Calls Try.prog 18 #[.slice ya yn yc, .slice ga gn gc] X fun e w' => e = .returned (.bool true) ∧ Below X.heap.size X w') := Lib.hid (fun X hX => by
          have h := ints_any (.slice ya yn yc) (.slice ga gn gc) lg lg X (Hyz.out.below hX) ((isSl_own zzC_len Hsvz.out.lgs : IsZs W9 _ lg).below hX)
          rw [decide_eq_true rfl] at h
          exact h)
        have z0 : W9.cell? ⟨zb, 0, none⟩ = some (.bool true) := by rw [cell_blkR HKz.out]; rfl
        have z1 : W9.cell? ⟨zb, 1, none⟩ = some (.int .i64 q) := by rw [cell_blkR HKz.out]; rfl
        have z2 : W9.cell? ⟨zb, 2, none⟩ = some (.slice ya yn yc) := by rw [cell_blkR HKz.out]; rfl
        have z3 : W9.cell? ⟨zb, 3, none⟩ = some (.slice xa zn xc) := by rw [cell_blkR HKz.out]; rfl
        have z4 : W9.cell? ⟨zb, 4, none⟩ = some (.slice none 0 0) := by rw [cell_blkR HKz.out]; rfl
        have s0 : W9.cell? ⟨sb, 0, none⟩ = some (.slice u0 m0 k0) := by rw [cell_blkR hblk]; rfl
        have s1 : W9.cell? ⟨sb, 1, none⟩ = some (.slice u1 m1 k1) := by rw [cell_blkR hblk]; rfl
        have s2 : W9.cell? ⟨sb, 2, none⟩ = some (.slice u2 m2 k2) := by rw [cell_blkR hblk]; rfl
        have s3 : W9.cell? ⟨sb, 3, none⟩ = some (.slice u3 m3 k3) := by rw [cell_blkR hblk]; rfl
        have s4 : W9.cell? ⟨sb, 4, none⟩ = some (.int .i64 q) := by rw [cell_blkR hblk]; rfl
        have s5 : W9.cell? ⟨sb, 5, none⟩ = some (.slice ga gn gc) := by rw [cell_blkR hblk]; rfl
        clear hblk
        refine wp_region_held_drew (S := fun V' => Hid (Below W9.heap.size W9 V')) (by kernel_rfl) (Lib.hid ((Below.refl _ _).drew)) (fun hS0 => ?_)
        refine wpAnyH_take (i := 0) (oi := { dst := some 88, op := Op.fieldAddr 27 (Operand.tmp 15) 0, type := 0, pos := "law.go:210", after := #[], guard := none }) (v := ?_) rfl (by kernel_rfl) (by kernel_rfl) (by kernel_rfl) (fun _ _ _ h => h) (Or.inl ⟨by rfl, ?hy38⟩) hS0 ?_
        case hy38 => (intro V hSw; (try dsimp only at hSw); clear hSw; go_simp; try with_reducible rfl)
        try simp only [Act.put, List.setIfInBounds_toArray, List.set_cons_zero, List.set_cons_succ]
        refine wpAnyH_take (i := 1) (oi := { dst := some 89, op := Op.load 4 (Operand.tmp 88), type := 4, pos := "law.go:210", after := #[{ on := 0, ground := Ground.data }], guard := none }) (v := ?_) rfl (by kernel_rfl) (by kernel_rfl) (by kernel_rfl) (fun _ _ _ h => h) (Or.inl ⟨by rfl, ?hy39⟩) hS0 ?_
        case hy39 => (intro V hSw; (try dsimp only at hSw); have q0 := grow_cell hSw.out (block_lt_of_cell z0) z0; have q1 := grow_cell hSw.out (block_lt_of_cell z1) z1; have q2 := grow_cell hSw.out (block_lt_of_cell z2) z2; have q3 := grow_cell hSw.out (block_lt_of_cell z3) z3; have q4 := grow_cell hSw.out (block_lt_of_cell z4) z4; have q5 := grow_cell hSw.out (block_lt_of_cell s0) s0; have q6 := grow_cell hSw.out (block_lt_of_cell s1) s1; have q7 := grow_cell hSw.out (block_lt_of_cell s2) s2; have q8 := grow_cell hSw.out (block_lt_of_cell s3) s3; have q9 := grow_cell hSw.out (block_lt_of_cell s4) s4; have q10 := grow_cell hSw.out (block_lt_of_cell s5) s5; clear hSw; go_simp; try with_reducible rfl)
        try simp only [Act.put, List.setIfInBounds_toArray, List.set_cons_zero, List.set_cons_succ]
        refine wpAnyH_take (i := 2) (oi := { dst := some 90, op := Op.move (Operand.tmp 89), type := 4, pos := "law.go:210", after := #[{ on := 1, ground := Ground.data }], guard := none }) (v := ?_) rfl (by kernel_rfl) (by kernel_rfl) (by kernel_rfl) (fun _ _ _ h => h) (Or.inl ⟨by rfl, ?hy40⟩) hS0 ?_
        case hy40 => (intro V hSw; (try dsimp only at hSw); clear hSw; go_simp; try with_reducible rfl)
        try simp only [Act.put, List.setIfInBounds_toArray, List.set_cons_zero, List.set_cons_succ]
        refine wpAnyH_take (i := 3) (oi := { dst := some 91, op := Op.fieldAddr 27 (Operand.tmp 15) 3, type := 0, pos := "law.go:210", after := #[{ on := 2, ground := Ground.guard }], guard := some (2, true) }) (v := ?_) rfl (by kernel_rfl) (by kernel_rfl) (by kernel_rfl) (fun _ _ _ h => h) (Or.inl ⟨by rfl, ?hy41⟩) hS0 ?_
        case hy41 => (intro V hSw; (try dsimp only at hSw); clear hSw; go_simp; try with_reducible rfl)
        try simp only [Act.put, List.setIfInBounds_toArray, List.set_cons_zero, List.set_cons_succ]
        refine wpAnyH_take (i := 4) (oi := { dst := some 92, op := Op.fieldAddr 25 (Operand.tmp 91) 1, type := 0, pos := "law.go:210", after := #[{ on := 3, ground := Ground.data }, { on := 2, ground := Ground.guard }], guard := some (2, true) }) (v := ?_) rfl (by kernel_rfl) (by kernel_rfl) (by kernel_rfl) (fun _ _ _ h => h) (Or.inl ⟨by rfl, ?hy42⟩) hS0 ?_
        case hy42 => (intro V hSw; (try dsimp only at hSw); clear hSw; go_simp; try with_reducible rfl)
        try simp only [Act.put, List.setIfInBounds_toArray, List.set_cons_zero, List.set_cons_succ]
        refine wpAnyH_take (i := 5) (oi := { dst := some 93, op := Op.load 22 (Operand.tmp 92), type := 22, pos := "law.go:210", after := #[{ on := 4, ground := Ground.data }, { on := 2, ground := Ground.guard }], guard := some (2, true) }) (v := ?_) rfl (by kernel_rfl) (by kernel_rfl) (by kernel_rfl) (fun _ _ _ h => h) (Or.inl ⟨by rfl, ?hy43⟩) hS0 ?_
        case hy43 => (intro V hSw; (try dsimp only at hSw); have q0 := grow_cell hSw.out (block_lt_of_cell z0) z0; have q1 := grow_cell hSw.out (block_lt_of_cell z1) z1; have q2 := grow_cell hSw.out (block_lt_of_cell z2) z2; have q3 := grow_cell hSw.out (block_lt_of_cell z3) z3; have q4 := grow_cell hSw.out (block_lt_of_cell z4) z4; have q5 := grow_cell hSw.out (block_lt_of_cell s0) s0; have q6 := grow_cell hSw.out (block_lt_of_cell s1) s1; have q7 := grow_cell hSw.out (block_lt_of_cell s2) s2; have q8 := grow_cell hSw.out (block_lt_of_cell s3) s3; have q9 := grow_cell hSw.out (block_lt_of_cell s4) s4; have q10 := grow_cell hSw.out (block_lt_of_cell s5) s5; clear hSw; go_simp; try with_reducible rfl)
        try simp only [Act.put, List.setIfInBounds_toArray, List.set_cons_zero, List.set_cons_succ]
        refine wpAnyH_take (i := 6) (oi := { dst := some 94, op := Op.call { callee := Callee.builtin Builtin.len, args := #[Operand.tmp 93], argTypes := #[22] }, type := 3, pos := "law.go:210", after := #[{ on := 5, ground := Ground.data }, { on := 2, ground := Ground.guard }], guard := some (2, true) }) (v := ?_) rfl (by kernel_rfl) (by kernel_rfl) (by kernel_rfl) (fun _ _ _ h => h) (Or.inl ⟨by rfl, ?hy44⟩) hS0 ?_
        case hy44 => (intro V hSw; (try dsimp only at hSw); clear hSw; go_simp; try with_reducible rfl)
        try simp only [Act.put, List.setIfInBounds_toArray, List.set_cons_zero, List.set_cons_succ]
        refine wpAnyH_take (i := 7) (oi := { dst := some 95, op := Op.binOp BinOp.eql 3 (Operand.tmp 94) (Operand.const (Value.int IntKind.i64 0)) 3, type := 4, pos := "law.go:210", after := #[{ on := 6, ground := Ground.data }, { on := 2, ground := Ground.guard }], guard := some (2, true) }) (v := ?_) rfl (by kernel_rfl) (by kernel_rfl) (by kernel_rfl) (fun _ _ _ h => h) (Or.inl ⟨by rfl, ?hy45⟩) hS0 ?_
        case hy45 => (intro V hSw; (try dsimp only at hSw); clear hSw; go_simp; try with_reducible rfl)
        try simp only [Act.put, List.setIfInBounds_toArray, List.set_cons_zero, List.set_cons_succ]
        refine wpAnyH_take (i := 8) (oi := { dst := some 96, op := Op.pick (Operand.tmp 90) (Operand.tmp 95) (Operand.const (Value.bool false)), type := 4, pos := "law.go:210", after := #[{ on := 2, ground := Ground.data }, { on := 7, ground := Ground.data }], guard := none }) (v := ?_) rfl (by kernel_rfl) (by kernel_rfl) (by kernel_rfl) (fun _ _ _ h => h) (Or.inl ⟨by rfl, ?hy46⟩) hS0 ?_
        case hy46 => (intro V hSw; (try dsimp only at hSw); clear hSw; go_simp; try with_reducible rfl)
        try simp only [Act.put, List.setIfInBounds_toArray, List.set_cons_zero, List.set_cons_succ]
        refine wpAnyH_take (i := 9) (oi := { dst := some 97, op := Op.move (Operand.tmp 96), type := 4, pos := "law.go:210", after := #[{ on := 8, ground := Ground.data }, { on := 2, ground := Ground.chain }], guard := none }) (v := ?_) rfl (by kernel_rfl) (by kernel_rfl) (by kernel_rfl) (fun _ _ _ h => h) (Or.inl ⟨by rfl, ?hy47⟩) hS0 ?_
        case hy47 => (intro V hSw; (try dsimp only at hSw); clear hSw; go_simp; try with_reducible rfl)
        try simp only [Act.put, List.setIfInBounds_toArray, List.set_cons_zero, List.set_cons_succ]
        refine wpAnyH_take (i := 10) (oi := { dst := some 98, op := Op.fieldAddr 27 (Operand.tmp 15) 3, type := 0, pos := "law.go:210", after := #[{ on := 9, ground := Ground.guard }], guard := some (9, true) }) (v := ?_) rfl (by kernel_rfl) (by kernel_rfl) (by kernel_rfl) (fun _ _ _ h => h) (Or.inl ⟨by rfl, ?hy48⟩) hS0 ?_
        case hy48 => (intro V hSw; (try dsimp only at hSw); clear hSw; go_simp; try with_reducible rfl)
        try simp only [Act.put, List.setIfInBounds_toArray, List.set_cons_zero, List.set_cons_succ]
        refine wpAnyH_take (i := 11) (oi := { dst := some 99, op := Op.fieldAddr 25 (Operand.tmp 98) 0, type := 0, pos := "law.go:210", after := #[{ on := 10, ground := Ground.data }, { on := 9, ground := Ground.guard }], guard := some (9, true) }) (v := ?_) rfl (by kernel_rfl) (by kernel_rfl) (by kernel_rfl) (fun _ _ _ h => h) (Or.inl ⟨by rfl, ?hy49⟩) hS0 ?_
        case hy49 => (intro V hSw; (try dsimp only at hSw); clear hSw; go_simp; try with_reducible rfl)
        try simp only [Act.put, List.setIfInBounds_toArray, List.set_cons_zero, List.set_cons_succ]
        refine wpAnyH_take (i := 12) (oi := { dst := some 100, op := Op.load 23 (Operand.tmp 99), type := 23, pos := "law.go:210", after := #[{ on := 11, ground := Ground.data }, { on := 9, ground := Ground.guard }], guard := some (9, true) }) (v := ?_) rfl (by kernel_rfl) (by kernel_rfl) (by kernel_rfl) (fun _ _ _ h => h) (Or.inl ⟨by rfl, ?hy50⟩) hS0 ?_
        case hy50 => (intro V hSw; (try dsimp only at hSw); have q0 := grow_cell hSw.out (block_lt_of_cell z0) z0; have q1 := grow_cell hSw.out (block_lt_of_cell z1) z1; have q2 := grow_cell hSw.out (block_lt_of_cell z2) z2; have q3 := grow_cell hSw.out (block_lt_of_cell z3) z3; have q4 := grow_cell hSw.out (block_lt_of_cell z4) z4; have q5 := grow_cell hSw.out (block_lt_of_cell s0) s0; have q6 := grow_cell hSw.out (block_lt_of_cell s1) s1; have q7 := grow_cell hSw.out (block_lt_of_cell s2) s2; have q8 := grow_cell hSw.out (block_lt_of_cell s3) s3; have q9 := grow_cell hSw.out (block_lt_of_cell s4) s4; have q10 := grow_cell hSw.out (block_lt_of_cell s5) s5; clear hSw; go_simp; try with_reducible rfl)
        try simp only [Act.put, List.setIfInBounds_toArray, List.set_cons_zero, List.set_cons_succ]
        refine wpAnyH_take (i := 13) (oi := { dst := some 101, op := Op.call { callee := Callee.builtin Builtin.len, args := #[Operand.tmp 100], argTypes := #[23] }, type := 3, pos := "law.go:210", after := #[{ on := 12, ground := Ground.data }, { on := 9, ground := Ground.guard }], guard := some (9, true) }) (v := ?_) rfl (by kernel_rfl) (by kernel_rfl) (by kernel_rfl) (fun _ _ _ h => h) (Or.inl ⟨by rfl, ?hy51⟩) hS0 ?_
        case hy51 => (intro V hSw; (try dsimp only at hSw); clear hSw; go_simp; try with_reducible rfl)
        try simp only [Act.put, List.setIfInBounds_toArray, List.set_cons_zero, List.set_cons_succ]
        refine wpAnyH_take (i := 14) (oi := { dst := some 102, op := Op.fieldAddr 63 (Operand.tmp 5) 0, type := 0, pos := "law.go:210", after := #[{ on := 9, ground := Ground.guard }], guard := some (9, true) }) (v := ?_) rfl (by kernel_rfl) (by kernel_rfl) (by kernel_rfl) (fun _ _ _ h => h) (Or.inl ⟨by rfl, ?hy52⟩) hS0 ?_
        case hy52 => (intro V hSw; (try dsimp only at hSw); clear hSw; go_simp; try with_reducible rfl)
        try simp only [Act.put, List.setIfInBounds_toArray, List.set_cons_zero, List.set_cons_succ]
        refine wpAnyH_take (i := 15) (oi := { dst := some 103, op := Op.load 61 (Operand.tmp 102), type := 61, pos := "law.go:210", after := #[{ on := 14, ground := Ground.data }, { on := 9, ground := Ground.guard }], guard := some (9, true) }) (v := ?_) rfl (by kernel_rfl) (by kernel_rfl) (by kernel_rfl) (fun _ _ _ h => h) (Or.inl ⟨by rfl, ?hy53⟩) hS0 ?_
        case hy53 => (intro V hSw; (try dsimp only at hSw); have q0 := grow_cell hSw.out (block_lt_of_cell z0) z0; have q1 := grow_cell hSw.out (block_lt_of_cell z1) z1; have q2 := grow_cell hSw.out (block_lt_of_cell z2) z2; have q3 := grow_cell hSw.out (block_lt_of_cell z3) z3; have q4 := grow_cell hSw.out (block_lt_of_cell z4) z4; have q5 := grow_cell hSw.out (block_lt_of_cell s0) s0; have q6 := grow_cell hSw.out (block_lt_of_cell s1) s1; have q7 := grow_cell hSw.out (block_lt_of_cell s2) s2; have q8 := grow_cell hSw.out (block_lt_of_cell s3) s3; have q9 := grow_cell hSw.out (block_lt_of_cell s4) s4; have q10 := grow_cell hSw.out (block_lt_of_cell s5) s5; clear hSw; go_simp; try with_reducible rfl)
        try simp only [Act.put, List.setIfInBounds_toArray, List.set_cons_zero, List.set_cons_succ]
        refine wpAnyH_ready (rs := [16]) (by kernel_rfl) (by simp) (AllReadyH.cons rfl (fun K hK => ?_) AllReadyH.nil)
        go_simp
        refine (HTab.out _ hS0.out).mono ?_
        rintro e wv54 ⟨ta54, tc54, rfl, hv54⟩
        have hS54 := Lib.hid (hS0.out.trans (hv54.mono hS0.out.size))
        clear hv54
        refine hK.out _ _ hS54 (fun _ => ?_)
        clear hK K
        try simp only [Act.put, List.setIfInBounds_toArray, List.set_cons_zero, List.set_cons_succ]
        refine wpAnyH_take (i := 17) (oi := { dst := some 105, op := Op.call { callee := Callee.builtin Builtin.len, args := #[Operand.tmp 104], argTypes := #[58] }, type := 3, pos := "law.go:210", after := #[{ on := 16, ground := Ground.data }, { on := 9, ground := Ground.guard }], guard := some (9, true) }) (v := ?_) rfl (by kernel_rfl) (by kernel_rfl) (by kernel_rfl) (fun _ _ _ h => h) (Or.inl ⟨by rfl, ?hy55⟩) hS54 ?_
        case hy55 => (intro V hSw; (try dsimp only at hSw); clear hSw; go_simp; try with_reducible rfl)
        try simp only [Act.put, List.setIfInBounds_toArray, List.set_cons_zero, List.set_cons_succ]
        refine wpAnyH_take (i := 18) (oi := { dst := some 106, op := Op.binOp BinOp.eql 3 (Operand.tmp 101) (Operand.tmp 105) 3, type := 4, pos := "law.go:210", after := #[{ on := 13, ground := Ground.data }, { on := 17, ground := Ground.data }, { on := 9, ground := Ground.guard }], guard := some (9, true) }) (v := ?_) rfl (by kernel_rfl) (by kernel_rfl) (by kernel_rfl) (fun _ _ _ h => h) (Or.inl ⟨by rfl, ?hy56⟩) hS54 ?_
        case hy56 => (intro V hSw; (try dsimp only at hSw); clear hSw; go_simp; try with_reducible rfl)
        try simp only [Act.put, List.setIfInBounds_toArray, List.set_cons_zero, List.set_cons_succ]
        refine wpAnyH_take (i := 19) (oi := { dst := some 107, op := Op.pick (Operand.tmp 97) (Operand.tmp 106) (Operand.const (Value.bool false)), type := 4, pos := "law.go:210", after := #[{ on := 9, ground := Ground.data }, { on := 18, ground := Ground.data }], guard := none }) (v := ?_) rfl (by kernel_rfl) (by kernel_rfl) (by kernel_rfl) (fun _ _ _ h => h) (Or.inl ⟨by rfl, ?hy57⟩) hS54 ?_
        case hy57 => (intro V hSw; (try dsimp only at hSw); clear hSw; go_simp; try with_reducible rfl)
        try simp only [Act.put, List.setIfInBounds_toArray, List.set_cons_zero, List.set_cons_succ]
        refine wpAnyH_take (i := 20) (oi := { dst := some 108, op := Op.move (Operand.tmp 107), type := 4, pos := "law.go:210", after := #[{ on := 19, ground := Ground.data }, { on := 16, ground := Ground.chain }], guard := none }) (v := ?_) rfl (by kernel_rfl) (by kernel_rfl) (by kernel_rfl) (fun _ _ _ h => h) (Or.inl ⟨by rfl, ?hy58⟩) hS54 ?_
        case hy58 => (intro V hSw; (try dsimp only at hSw); clear hSw; go_simp; try with_reducible rfl)
        try simp only [Act.put, List.setIfInBounds_toArray, List.set_cons_zero, List.set_cons_succ]
        refine wpAnyH_take (i := 21) (oi := { dst := some 109, op := Op.fieldAddr 27 (Operand.tmp 15) 1, type := 0, pos := "law.go:210", after := #[{ on := 20, ground := Ground.guard }], guard := some (20, true) }) (v := ?_) rfl (by kernel_rfl) (by kernel_rfl) (by kernel_rfl) (fun _ _ _ h => h) (Or.inl ⟨by rfl, ?hy59⟩) hS54 ?_
        case hy59 => (intro V hSw; (try dsimp only at hSw); clear hSw; go_simp; try with_reducible rfl)
        try simp only [Act.put, List.setIfInBounds_toArray, List.set_cons_zero, List.set_cons_succ]
        refine wpAnyH_take (i := 22) (oi := { dst := some 110, op := Op.load 3 (Operand.tmp 109), type := 3, pos := "law.go:210", after := #[{ on := 21, ground := Ground.data }, { on := 20, ground := Ground.guard }], guard := some (20, true) }) (v := ?_) rfl (by kernel_rfl) (by kernel_rfl) (by kernel_rfl) (fun _ _ _ h => h) (Or.inl ⟨by rfl, ?hy60⟩) hS54 ?_
        case hy60 => (intro V hSw; (try dsimp only at hSw); have q0 := grow_cell hSw.out (block_lt_of_cell z0) z0; have q1 := grow_cell hSw.out (block_lt_of_cell z1) z1; have q2 := grow_cell hSw.out (block_lt_of_cell z2) z2; have q3 := grow_cell hSw.out (block_lt_of_cell z3) z3; have q4 := grow_cell hSw.out (block_lt_of_cell z4) z4; have q5 := grow_cell hSw.out (block_lt_of_cell s0) s0; have q6 := grow_cell hSw.out (block_lt_of_cell s1) s1; have q7 := grow_cell hSw.out (block_lt_of_cell s2) s2; have q8 := grow_cell hSw.out (block_lt_of_cell s3) s3; have q9 := grow_cell hSw.out (block_lt_of_cell s4) s4; have q10 := grow_cell hSw.out (block_lt_of_cell s5) s5; clear hSw; go_simp; try with_reducible rfl)
        try simp only [Act.put, List.setIfInBounds_toArray, List.set_cons_zero, List.set_cons_succ]
        refine wpAnyH_take (i := 23) (oi := { dst := some 111, op := Op.fieldAddr 63 (Operand.tmp 5) 1, type := 0, pos := "law.go:210", after := #[{ on := 20, ground := Ground.guard }], guard := some (20, true) }) (v := ?_) rfl (by kernel_rfl) (by kernel_rfl) (by kernel_rfl) (fun _ _ _ h => h) (Or.inl ⟨by rfl, ?hy61⟩) hS54 ?_
        case hy61 => (intro V hSw; (try dsimp only at hSw); clear hSw; go_simp; try with_reducible rfl)
        try simp only [Act.put, List.setIfInBounds_toArray, List.set_cons_zero, List.set_cons_succ]
        refine wpAnyH_take (i := 24) (oi := { dst := some 112, op := Op.load 3 (Operand.tmp 111), type := 3, pos := "law.go:210", after := #[{ on := 23, ground := Ground.data }, { on := 20, ground := Ground.guard }], guard := some (20, true) }) (v := ?_) rfl (by kernel_rfl) (by kernel_rfl) (by kernel_rfl) (fun _ _ _ h => h) (Or.inl ⟨by rfl, ?hy62⟩) hS54 ?_
        case hy62 => (intro V hSw; (try dsimp only at hSw); have q0 := grow_cell hSw.out (block_lt_of_cell z0) z0; have q1 := grow_cell hSw.out (block_lt_of_cell z1) z1; have q2 := grow_cell hSw.out (block_lt_of_cell z2) z2; have q3 := grow_cell hSw.out (block_lt_of_cell z3) z3; have q4 := grow_cell hSw.out (block_lt_of_cell z4) z4; have q5 := grow_cell hSw.out (block_lt_of_cell s0) s0; have q6 := grow_cell hSw.out (block_lt_of_cell s1) s1; have q7 := grow_cell hSw.out (block_lt_of_cell s2) s2; have q8 := grow_cell hSw.out (block_lt_of_cell s3) s3; have q9 := grow_cell hSw.out (block_lt_of_cell s4) s4; have q10 := grow_cell hSw.out (block_lt_of_cell s5) s5; clear hSw; go_simp; try with_reducible rfl)
        try simp only [Act.put, List.setIfInBounds_toArray, List.set_cons_zero, List.set_cons_succ]
        refine wpAnyH_take (i := 25) (oi := { dst := some 113, op := Op.binOp BinOp.eql 3 (Operand.tmp 110) (Operand.tmp 112) 3, type := 4, pos := "law.go:210", after := #[{ on := 22, ground := Ground.data }, { on := 24, ground := Ground.data }, { on := 20, ground := Ground.guard }], guard := some (20, true) }) (v := ?_) rfl (by kernel_rfl) (by kernel_rfl) (by kernel_rfl) (fun _ _ _ h => h) (Or.inl ⟨by rfl, ?hy63⟩) hS54 ?_
        case hy63 => (intro V hSw; (try dsimp only at hSw); clear hSw; go_simp; try with_reducible rfl)
        try simp only [Act.put, List.setIfInBounds_toArray, List.set_cons_zero, List.set_cons_succ]
        refine wpAnyH_take (i := 26) (oi := { dst := some 114, op := Op.pick (Operand.tmp 108) (Operand.tmp 113) (Operand.const (Value.bool false)), type := 4, pos := "law.go:210", after := #[{ on := 20, ground := Ground.data }, { on := 25, ground := Ground.data }], guard := none }) (v := ?_) rfl (by kernel_rfl) (by kernel_rfl) (by kernel_rfl) (fun _ _ _ h => h) (Or.inl ⟨by rfl, ?hy64⟩) hS54 ?_
        case hy64 => (intro V hSw; (try dsimp only at hSw); clear hSw; go_simp; try with_reducible rfl)
        try simp only [Act.put, List.setIfInBounds_toArray, List.set_cons_zero, List.set_cons_succ]
        refine wpAnyH_take (i := 27) (oi := { dst := some 115, op := Op.move (Operand.tmp 114), type := 4, pos := "law.go:210", after := #[{ on := 26, ground := Ground.data }, { on := 20, ground := Ground.chain }], guard := none }) (v := ?_) rfl (by kernel_rfl) (by kernel_rfl) (by kernel_rfl) (fun _ _ _ h => h) (Or.inl ⟨by rfl, ?hy65⟩) hS54 ?_
        case hy65 => (intro V hSw; (try dsimp only at hSw); clear hSw; go_simp; try with_reducible rfl)
        try simp only [Act.put, List.setIfInBounds_toArray, List.set_cons_zero, List.set_cons_succ]
        refine wpAnyH_take (i := 28) (oi := { dst := some 116, op := Op.fieldAddr 27 (Operand.tmp 15) 2, type := 0, pos := "law.go:210", after := #[{ on := 27, ground := Ground.guard }], guard := some (27, true) }) (v := ?_) rfl (by kernel_rfl) (by kernel_rfl) (by kernel_rfl) (fun _ _ _ h => h) (Or.inl ⟨by rfl, ?hy66⟩) hS54 ?_
        case hy66 => (intro V hSw; (try dsimp only at hSw); clear hSw; go_simp; try with_reducible rfl)
        try simp only [Act.put, List.setIfInBounds_toArray, List.set_cons_zero, List.set_cons_succ]
        refine wpAnyH_take (i := 29) (oi := { dst := some 117, op := Op.load 22 (Operand.tmp 116), type := 22, pos := "law.go:210", after := #[{ on := 28, ground := Ground.data }, { on := 27, ground := Ground.guard }], guard := some (27, true) }) (v := ?_) rfl (by kernel_rfl) (by kernel_rfl) (by kernel_rfl) (fun _ _ _ h => h) (Or.inl ⟨by rfl, ?hy67⟩) hS54 ?_
        case hy67 => (intro V hSw; (try dsimp only at hSw); have q0 := grow_cell hSw.out (block_lt_of_cell z0) z0; have q1 := grow_cell hSw.out (block_lt_of_cell z1) z1; have q2 := grow_cell hSw.out (block_lt_of_cell z2) z2; have q3 := grow_cell hSw.out (block_lt_of_cell z3) z3; have q4 := grow_cell hSw.out (block_lt_of_cell z4) z4; have q5 := grow_cell hSw.out (block_lt_of_cell s0) s0; have q6 := grow_cell hSw.out (block_lt_of_cell s1) s1; have q7 := grow_cell hSw.out (block_lt_of_cell s2) s2; have q8 := grow_cell hSw.out (block_lt_of_cell s3) s3; have q9 := grow_cell hSw.out (block_lt_of_cell s4) s4; have q10 := grow_cell hSw.out (block_lt_of_cell s5) s5; clear hSw; go_simp; try with_reducible rfl)
        try simp only [Act.put, List.setIfInBounds_toArray, List.set_cons_zero, List.set_cons_succ]
        refine wpAnyH_take (i := 30) (oi := { dst := some 118, op := Op.fieldAddr 63 (Operand.tmp 5) 2, type := 0, pos := "law.go:210", after := #[{ on := 27, ground := Ground.guard }], guard := some (27, true) }) (v := ?_) rfl (by kernel_rfl) (by kernel_rfl) (by kernel_rfl) (fun _ _ _ h => h) (Or.inl ⟨by rfl, ?hy68⟩) hS54 ?_
        case hy68 => (intro V hSw; (try dsimp only at hSw); clear hSw; go_simp; try with_reducible rfl)
        try simp only [Act.put, List.setIfInBounds_toArray, List.set_cons_zero, List.set_cons_succ]
        refine wpAnyH_take (i := 31) (oi := { dst := some 119, op := Op.load 22 (Operand.tmp 118), type := 22, pos := "law.go:210", after := #[{ on := 30, ground := Ground.data }, { on := 27, ground := Ground.guard }], guard := some (27, true) }) (v := ?_) rfl (by kernel_rfl) (by kernel_rfl) (by kernel_rfl) (fun _ _ _ h => h) (Or.inl ⟨by rfl, ?hy69⟩) hS54 ?_
        case hy69 => (intro V hSw; (try dsimp only at hSw); have q0 := grow_cell hSw.out (block_lt_of_cell z0) z0; have q1 := grow_cell hSw.out (block_lt_of_cell z1) z1; have q2 := grow_cell hSw.out (block_lt_of_cell z2) z2; have q3 := grow_cell hSw.out (block_lt_of_cell z3) z3; have q4 := grow_cell hSw.out (block_lt_of_cell z4) z4; have q5 := grow_cell hSw.out (block_lt_of_cell s0) s0; have q6 := grow_cell hSw.out (block_lt_of_cell s1) s1; have q7 := grow_cell hSw.out (block_lt_of_cell s2) s2; have q8 := grow_cell hSw.out (block_lt_of_cell s3) s3; have q9 := grow_cell hSw.out (block_lt_of_cell s4) s4; have q10 := grow_cell hSw.out (block_lt_of_cell s5) s5; clear hSw; go_simp; try with_reducible rfl)
        try simp only [Act.put, List.setIfInBounds_toArray, List.set_cons_zero, List.set_cons_succ]
        refine wpAnyH_ready (rs := [32]) (by kernel_rfl) (by simp) (AllReadyH.cons rfl (fun K hK => ?_) AllReadyH.nil)
        go_simp
        refine (HIn.out _ hS54.out).mono ?_
        rintro e wv70 ⟨rfl, hv70⟩
        have hS70 := Lib.hid (hS54.out.trans (hv70.mono hS54.out.size))
        clear hv70
        refine hK.out _ _ hS70 (fun _ => ?_)
        clear hK K
        try simp only [Act.put, List.setIfInBounds_toArray, List.set_cons_zero, List.set_cons_succ]
        refine wpAnyH_take (i := 33) (oi := { dst := some 121, op := Op.pick (Operand.tmp 115) (Operand.tmp 120) (Operand.const (Value.bool false)), type := 4, pos := "law.go:210", after := #[{ on := 27, ground := Ground.data }, { on := 32, ground := Ground.data }], guard := none }) (v := ?_) rfl (by kernel_rfl) (by kernel_rfl) (by kernel_rfl) (fun _ _ _ h => h) (Or.inl ⟨by rfl, ?hy71⟩) hS70 ?_
        case hy71 => (intro V hSw; (try dsimp only at hSw); clear hSw; go_simp; try with_reducible rfl)
        try simp only [Act.put, List.setIfInBounds_toArray, List.set_cons_zero, List.set_cons_succ]
        refine wpAnyH_take (i := 34) (oi := { dst := some 122, op := Op.move (Operand.tmp 121), type := 4, pos := "law.go:210", after := #[{ on := 33, ground := Ground.data }, { on := 32, ground := Ground.chain }], guard := none }) (v := ?_) rfl (by kernel_rfl) (by kernel_rfl) (by kernel_rfl) (fun _ _ _ h => h) (Or.inl ⟨by rfl, ?hy72⟩) hS70 ?_
        case hy72 => (intro V hSw; (try dsimp only at hSw); clear hSw; go_simp; try with_reducible rfl)
        try simp only [Act.put, List.setIfInBounds_toArray, List.set_cons_zero, List.set_cons_succ]
        refine wpAnyH_ready (rs := [35]) (by kernel_rfl) (by simp) (AllReadyH.cons rfl (fun K hK => ?_) AllReadyH.nil)
        go_simp
        refine (Haw.out _).mono ?_
        rintro e wv73 ⟨rfl, hv73⟩
        have hS73 := Lib.hid (hS70.out.trans (hv73.mono hS70.out.size))
        clear hv73
        refine hK.out _ _ hS73 (fun _ => ?_)
        clear hK K
        try simp only [Act.put, List.setIfInBounds_toArray, List.set_cons_zero, List.set_cons_succ]
        refine wpAnyH_take (i := 36) (oi := { dst := some 124, op := Op.pick (Operand.tmp 122) (Operand.tmp 123) (Operand.const (Value.bool false)), type := 4, pos := "law.go:210", after := #[{ on := 34, ground := Ground.data }, { on := 35, ground := Ground.data }], guard := none }) (v := ?_) rfl (by kernel_rfl) (by kernel_rfl) (by kernel_rfl) (fun _ _ _ h => h) (Or.inl ⟨by rfl, ?hy74⟩) hS73 ?_
        case hy74 => (intro V hSw; (try dsimp only at hSw); clear hSw; go_simp; try with_reducible rfl)
        try simp only [Act.put, List.setIfInBounds_toArray, List.set_cons_zero, List.set_cons_succ]
        refine wpAnyH_ready (rs := [37]) (by kernel_rfl) (by simp) (AllReadyH.cons rfl (fun K hK => ?_) AllReadyH.nil)
        go_simp
        refine hK.out _ _ hS73 (fun _ => ?_)
        clear hK K
        try simp only [Act.put, List.setIfInBounds_toArray, List.set_cons_zero, List.set_cons_succ]
        refine wpAnyH_done (by kernel_rfl) ?_ _
        go_wp2_with fail
        go_ret
        exact ⟨rfl, HB9.out.trans (hS73.out.mono HB9.out.size)⟩
end Go.Proofs.Ythjjelomlgmllaa.Tithe
