/- THE LAW ManifestParses: walked (printed by mkparses.py). -/
import Derived.Test.YthjjelomlgmllaaManParse2
import Derived.Test.YthjjelomlgmllaaManDoc
import Derived.Test.YthjjelomlgmllaaManSame
import Derived.Test.YthjjelomlgmllaaManOpen
import Derived.Test.YthjjelomlgmllaaManAwake
namespace Go.Proofs.Ythjjelomlgmllaa.Tithe
open Go.RowKit Go.Sort Go.Shelf
set_option linter.unusedVariables false
set_option linter.unusedSimpArgs false
set_option maxRecDepth 100000
attribute [local go_sem] Oper.semAt_some
set_option maxHeartbeats 6400000 in
theorem manifestParses_walk (v0 : Value) (bs : List Nat) (w : World) (h0 : IsBy w v0 bs) :
    Calls Try.prog 4 #[v0] w fun e w' => e = .returned (.bool true) ∧ Below w.heap.size w w' := by
  obtain ⟨a0, c0, rfl, -, -, -⟩ := id h0.1
  have hpar := fun (hl : bs.length ≤ 3000) => mparse_any _ bs w h0.1 h0.2 (by omega)
  have hinv := fun (ad : List (Int × Mr)) => parS_inv (bs := bs) (ad := ad) h0.2
  obtain ⟨P, hP⟩ : ∃ P, P = parS bs := ⟨_, rfl⟩
  rw [← hP] at hpar hinv
  obtain ⟨n0, hn0⟩ : ∃ q, q = bs.length := ⟨_, rfl⟩
  have H0 := Lib.hid h0.1
  rw [← hn0] at H0 hpar ⊢
  have Hinv := Lib.hid hinv
  have Haw := Lib.hid (fun X => awake16_any X)
  clear hP hinv h0 hn0
  go_enter Try.func4, Try.ntmps4
  by_cases hbig : 3000 < n0
  · have hd : decide ((3000 : Int) < (n0 : Int)) = true := decide_eq_true (by omega)
    have hd2 : decide ((n0 : Int) > 3000) = true := decide_eq_true (by omega)
    clear hpar
    go_wp2_with fail
    refine (Haw.out _).mono ?_
    rintro e w2 ⟨rfl, hb2⟩
    have Hb2 := Lib.hid hb2
    clear hb2
    go_wp2_with fail
    go_ret
    exact ⟨rfl, Hb2.out⟩
  have hd : decide ((3000 : Int) < (n0 : Int)) = false := decide_eq_false (by omega)
  have hd2 : decide ((n0 : Int) > 3000) = false := decide_eq_false (by omega)
  have Hpar := Lib.hid (hpar (by omega))
  clear hpar
  go_wp2_with fail
  refine Hpar.out.mono ?_
  rintro e w1 ⟨hb1, vl, va, vd, ad, hps, hvl, hvd, hva, hcase⟩
  have Hb1 := Lib.hid hb1
  have H0b := Lib.hid (H0.out.below hb1)
  clear hb1 Hpar
  rcases hcase with ⟨hok, rfl⟩ | ⟨hok, rfl⟩
  rotate_left
  · clear hps hvl hvd hva hok
    have hA : Below w1.heap.size w1 (w1.alloc (.cells #[.bool false, .int .i64 0, .slice none 0 0, .slice none 0 0, .slice none 0 0] 27)) := (Below.refl _ _).alloc (Nat.le_refl _) _
    have HK := Lib.hid (blk_of_alloc w1 (.cells #[.bool false, .int .i64 0, .slice none 0 0, .slice none 0 0, .slice none 0 0] 27))
    have HB := Lib.hid (Hb1.out.trans (hA.mono Hb1.out.size))
    obtain ⟨ob, hob⟩ : ∃ q, q = w1.heap.size := ⟨_, rfl⟩
    rw [← hob] at HK
    have Hob := Lib.hid hob
    clear hA hob Hb1 H0b
    go_upto_region 4 with fail
    rw [← Hob.out]
    generalize w1.alloc (.cells #[.bool false, .int .i64 0, .slice none 0 0, .slice none 0 0, .slice none 0 0] 27) = W at *
    have b0 : W.cell? ⟨ob, 0, none⟩ = some (.bool false) := by rw [cell_blkR HK.out]; rfl
    have b1 : W.cell? ⟨ob, 1, none⟩ = some (.int .i64 0) := by rw [cell_blkR HK.out]; rfl
    have b2 : W.cell? ⟨ob, 2, none⟩ = some (.slice none 0 0) := by rw [cell_blkR HK.out]; rfl
    have b3 : W.cell? ⟨ob, 3, none⟩ = some (.slice none 0 0) := by rw [cell_blkR HK.out]; rfl
    have b4 : W.cell? ⟨ob, 4, none⟩ = some (.slice none 0 0) := by rw [cell_blkR HK.out]; rfl
    go_wp2_with fail
    refine (Haw.out _).mono ?_
    rintro e w2 ⟨rfl, hb2⟩
    have Hb2 := Lib.hid (HB.out.trans (hb2.mono HB.out.size))
    clear hb2
    go_wp2_with fail
    go_ret
    exact ⟨rfl, Hb2.out⟩
  obtain ⟨wh, hwh⟩ : ∃ q, q = decide (P.wh = 1) := ⟨_, rfl⟩
  obtain ⟨sq, hsq⟩ : ∃ q, q = P.sq := ⟨_, rfl⟩
  obtain ⟨ls, hls⟩ : ∃ q, q = P.lg := ⟨_, rfl⟩
  obtain ⟨dr, hdr⟩ : ∃ q, q = P.dr := ⟨_, rfl⟩
  have hbs := Hinv.out ad hps hok
  have hrk : recOk ⟨decide (P.wh = 1), (P.sq : Int), P.lg, ad, P.dr⟩ = true := by
    unfold okPd at hok
    rw [Bool.and_eq_true] at hok
    exact hok.2
  rw [← hwh, ← hsq, ← hls, ← hdr] at hbs hrk
  rw [← hwh, ← hsq]
  rw [← hls] at hvl
  rw [← hdr] at hvd
  have Hbs := Lib.hid hbs
  have Hrk := Lib.hid hrk
  clear hps hok hwh hsq hls hdr hbs hrk Hinv
  obtain ⟨nl, hnl⟩ : ∃ q, q = ls.length := ⟨_, rfl⟩
  obtain ⟨nd, hnd⟩ : ∃ q, q = dr.length := ⟨_, rfl⟩
  obtain ⟨na, hna⟩ : ∃ q, q = ad.length := ⟨_, rfl⟩
  have hvl2 := hvl
  have hvd2 := hvd
  have hva2 := hva
  rw [OwnZ, ← hnl] at hvl2
  rw [OwnZ, ← hnd] at hvd2
  have hva3 := hva2.1
  rw [← hna] at hva3
  obtain ⟨la, lc, rfl⟩ := own_slice hvl2
  obtain ⟨da, dc, rfl⟩ := own_slice hvd2
  obtain ⟨aa, ac, rfl⟩ := own_slice hva3
  clear hvl2 hvd2 hva2 hva3 hnl hnd hna
  have HL := Lib.hid (show IsZs w1 (.slice la nl lc) ls from isSl_own zzC_len hvl)
  have HD := Lib.hid (show IsZs w1 (.slice da nd dc) dr from isSl_own zzC_len hvd)
  have HP := Lib.hid hva.is
  have HIs := Lib.hid (recOk_is Hrk.out)
  have HAl := Lib.hid (show ad.length ≤ 100000 from by have := HIs.out.an; dsimp only at this; omega)
  have HRl := Lib.hid (show ∀ p ∈ ad, p.2.1.refs.length ≤ 1000000 from fun p hp => by have := (HIs.out.ap p hp).rn; dsimp only at this; omega)
  clear hvl hvd hva
  have hA : Below w1.heap.size w1 (w1.alloc (.cells #[.bool wh, .int .i64 (sq : Nat), .slice la nl lc, .slice aa na ac, .slice da nd dc] 27)) := (Below.refl _ _).alloc (Nat.le_refl _) _
  have HK := Lib.hid (blk_of_alloc w1 (.cells #[.bool wh, .int .i64 (sq : Nat), .slice la nl lc, .slice aa na ac, .slice da nd dc] 27))
  have HB := Lib.hid hA
  obtain ⟨ob, hob⟩ : ∃ q, q = w1.heap.size := ⟨_, rfl⟩
  rw [← hob] at HK
  have Hob := Lib.hid hob
  clear hA hob
  go_upto_region 6 with fail
  rw [← Hob.out]
  generalize w1.alloc (.cells #[.bool wh, .int .i64 (sq : Nat), .slice la nl lc, .slice aa na ac, .slice da nd dc] 27) = W2 at *
  have Hr1 := Lib.hid (ref16_any wh (sq : Nat) (.slice la nl lc) (.slice aa na ac) (.slice da nd dc) ad W2 ⟨_, _, _, rfl⟩ ⟨_, _, _, rfl⟩ (HP.out.bel HB.out) HAl.out HRl.out)
  have b0 : W2.cell? ⟨ob, 0, none⟩ = some (.bool wh) := by rw [cell_blkR HK.out]; rfl
  have b1 : W2.cell? ⟨ob, 1, none⟩ = some (.int .i64 (sq : Nat)) := by rw [cell_blkR HK.out]; rfl
  have b2 : W2.cell? ⟨ob, 2, none⟩ = some (.slice la nl lc) := by rw [cell_blkR HK.out]; rfl
  have b3 : W2.cell? ⟨ob, 3, none⟩ = some (.slice aa na ac) := by rw [cell_blkR HK.out]; rfl
  have b4 : W2.cell? ⟨ob, 4, none⟩ = some (.slice da nd dc) := by rw [cell_blkR HK.out]; rfl
  go_wp2_with fail
  refine Hr1.out.mono ?_
  rintro e w3 ⟨vx, ax, rfl, hpx, hox, hb3⟩
  have HB3 := Lib.hid (HB.out.trans (hb3.mono HB.out.size))
  have HK3 := Lib.hid (blk_bels hb3 HK.out)
  have hrx : recOk ⟨wh, (sq : Nat), ls, ax, dr⟩ = true := (recOk_ps hpx).trans Hrk.out
  have hri := recOk_is hrx
  have hrg := right16_any wh (sq : Nat) (.slice la nl lc) vx (.slice da nd dc) ls ax dr w3 (HL.out.below HB3.out) (HD.out.below HB3.out) hox.is (fun p hp => by have := (hri.ap p hp).rn; dsimp only at this; omega) (fun p hp => by
    have h1 := okK_size (hri.ap p hp).ka
    have h2 := okK_size (hri.ap p hp).kb
    dsimp only at h1 h2
    unfold maxLen; omega)
  rw [hrx] at hrg
  obtain ⟨nx, hnx⟩ : ∃ q, q = ax.length := ⟨_, rfl⟩
  have hox2 := hox.1
  rw [← hnx] at hox2
  obtain ⟨xa, xc, rfl⟩ := own_slice hox2
  have Hrg := Lib.hid hrg
  clear hox2 hnx hrg hri hrx hpx hox hb3 Hr1 HB HK b0 b1 b2 b3 b4
  go_wp2_with fail
  refine Hrg.out.mono ?_
  rintro e w4 ⟨rfl, hb4⟩
  have HB4 := Lib.hid (HB3.out.trans (hb4.mono HB3.out.size))
  have HK4 := Lib.hid (blk_bels hb4 HK3.out)
  have hck := rcheck_any wh (sq : Nat) (.slice la nl lc) (.slice aa na ac) (.slice da nd dc) ls ad dr w4 (HL.out.below HB4.out) (HD.out.below HB4.out) (HP.out.bel HB4.out) HAl.out HRl.out
  rw [show chkR ⟨wh, (sq : Nat), ls, ad, dr⟩ = 0 by unfold chkR; rw [Hrk.out]; rfl] at hck
  have Hck := Lib.hid hck
  clear hb4 hck HB3 HK3 Hrg
  have b0 : w4.cell? ⟨ob, 0, none⟩ = some (.bool wh) := by rw [cell_blkR HK4.out]; rfl
  have b1 : w4.cell? ⟨ob, 1, none⟩ = some (.int .i64 (sq : Nat)) := by rw [cell_blkR HK4.out]; rfl
  have b2 : w4.cell? ⟨ob, 2, none⟩ = some (.slice la nl lc) := by rw [cell_blkR HK4.out]; rfl
  have b3 : w4.cell? ⟨ob, 3, none⟩ = some (.slice aa na ac) := by rw [cell_blkR HK4.out]; rfl
  have b4 : w4.cell? ⟨ob, 4, none⟩ = some (.slice da nd dc) := by rw [cell_blkR HK4.out]; rfl
  go_wp2_with fail
  refine Hck.out.mono ?_
  rintro e w5 ⟨rfl, hb5⟩
  have HB5 := Lib.hid (HB4.out.trans (hb5.mono HB4.out.size))
  have HK5 := Lib.hid (blk_bels hb5 HK4.out)
  have Hr2 := Lib.hid (ref16_any wh (sq : Nat) (.slice la nl lc) (.slice aa na ac) (.slice da nd dc) ad w5 ⟨_, _, _, rfl⟩ ⟨_, _, _, rfl⟩ (HP.out.bel HB5.out) HAl.out HRl.out)
  clear hb5 HB4 HK4 Hck b0 b1 b2 b3 b4
  have b0 : w5.cell? ⟨ob, 0, none⟩ = some (.bool wh) := by rw [cell_blkR HK5.out]; rfl
  have b1 : w5.cell? ⟨ob, 1, none⟩ = some (.int .i64 (sq : Nat)) := by rw [cell_blkR HK5.out]; rfl
  have b2 : w5.cell? ⟨ob, 2, none⟩ = some (.slice la nl lc) := by rw [cell_blkR HK5.out]; rfl
  have b3 : w5.cell? ⟨ob, 3, none⟩ = some (.slice aa na ac) := by rw [cell_blkR HK5.out]; rfl
  have b4 : w5.cell? ⟨ob, 4, none⟩ = some (.slice da nd dc) := by rw [cell_blkR HK5.out]; rfl
  go_wp2_with fail
  refine Hr2.out.mono ?_
  rintro e w6 ⟨vx, ax, rfl, hpx, hox, hb6⟩
  have HB6 := Lib.hid (HB5.out.trans (hb6.mono HB5.out.size))
  have hby := rbytes16_any wh (sq : Nat) (.slice la nl lc) vx (.slice da nd dc) ls ax dr w6 (HL.out.below HB6.out) (HD.out.below HB6.out) hox.is (recOk_is ((recOk_ps hpx).trans Hrk.out))
  rw [encR_ps hpx, ← Hbs.out] at hby
  obtain ⟨nx, hnx⟩ : ∃ q, q = ax.length := ⟨_, rfl⟩
  have hox2 := hox.1
  rw [← hnx] at hox2
  obtain ⟨xa, xc, rfl⟩ := own_slice hox2
  have Hby := Lib.hid hby
  clear hox2 hnx hby hpx hox hb6 Hr2 HB5 HK5 b0 b1 b2 b3 b4
  go_wp2_with fail
  refine Hby.out.mono ?_
  rintro e w7 ⟨vb, rfl, ho7, hb7⟩
  have HB7 := Lib.hid (HB6.out.trans (hb7.mono HB6.out.size))
  have Hsm := Lib.hid (same_yes vb (.slice a0 n0 c0) bs w7 (isSl_own byteC_len ho7) (H0b.out.below HB7.out))
  obtain ⟨nx, hnx⟩ : ∃ q, q = bs.length := ⟨_, rfl⟩
  rw [OwnBs, ← hnx] at ho7
  obtain ⟨ba, bc, rfl⟩ := own_slice ho7
  clear ho7 hnx hb7 Hby
  go_wp2_with fail
  refine Hsm.out.mono ?_
  rintro e w8 ⟨rfl, rfl⟩
  go_wp2_with fail
  refine (Haw.out _).mono ?_
  rintro e w9 ⟨rfl, hb9⟩
  have HB9 := Lib.hid (Hb1.out.trans ((HB7.out.trans (hb9.mono HB7.out.size)).mono Hb1.out.size))
  clear hb9
  go_wp2_with fail
  go_ret
  exact ⟨rfl, HB9.out⟩
end Go.Proofs.Ythjjelomlgmllaa.Tithe
