/- THE LAW ManifestBack: walked (printed by mkback.py). -/
import Derived.Test.YthjjelomlgmllaaManParse2
import Derived.Test.YthjjelomlgmllaaManDoc
import Derived.Test.YthjjelomlgmllaaManSame
import Derived.Test.YthjjelomlgmllaaManAwake
import Derived.Test.YthjjelomlgmllaaManSmall
namespace Go.Proofs.Ythjjelomlgmllaa.Tithe
open Go.RowKit Go.Sort Go.Shelf
set_option linter.unusedVariables false
set_option linter.unusedSimpArgs false
set_option maxRecDepth 100000
/-- a row that lies behind the block that was changed -/
theorem own_behind {W W' : World} {base b : Nat} {e : TypeId} {sz n : Nat} {v : Value} {xs : List Value} (h : W.ownsRow base e sz v n xs) (hb : b < base) (hk : ∀ k, k ≠ b → W'.heap[k]? = W.heap[k]?) : W'.ownsRow base e sz v n xs := by
  refine ⟨h.1, ?_⟩
  rcases h.2 with h0 | ⟨g, cap, cur, hv, hg, hh, r⟩
  · exact .inl h0
  · exact .inr ⟨g, cap, cur, hv, hg, (hk g (by omega)).trans hh, r⟩
theorem psM_sizes {a b : List (Int × Mr)} (h : psM a = psM b) {P : Int × Mt → Prop} (hb : ∀ p ∈ b, P (p.1, p.2.1)) : ∀ p ∈ a, P (p.1, p.2.1) := by
  intro p hp
  have h1 : (p.1, p.2.1) ∈ psM a := List.mem_map.2 ⟨p, hp, rfl⟩
  rw [h] at h1
  obtain ⟨q, hq, e⟩ := List.mem_map.1 h1
  rw [← e]; exact hb q hq
theorem okPd_enc {wh : Bool} {s : Int} {ls dr : List Int} {ad ae : List (Int × Mr)} (hs : 0 ≤ s) (hp : psM ae = psM ad) (hok : recOk ⟨wh, s, ls, ad, dr⟩ = true) : okPd ⟨if wh then 1 else 0, s.toNat, ls, dr, psM ad, ⟨[], false, false⟩⟩ ae = true := by
  unfold okPd
  dsimp only
  rw [Int.toNat_of_nonneg hs, show (decide ((if wh then 1 else 0) = 1) : Bool) = wh by cases wh <;> rfl, recOk_ps hp, hok]
  cases wh <;> rfl
attribute [local go_sem] Oper.semAt_some
set_option maxHeartbeats 12800000 in
theorem manifestBack_walk (wh : Bool) (s : Int) (vl va vd : Value) (ls : List Int) (ad : List (Int × Mr)) (dr : List Int) (w : World) (hl : IsZs w vl ls) (hd : IsZs w vd dr) (ha : IsPl w va ad) :
    Calls Try.prog 3 #[.agg #[.bool wh, .int .i64 s, vl, va, vd]] w fun e w' => e = .returned (.bool true) ∧ Below w.heap.size w w' := by
  obtain ⟨la, lc, rfl, -, -, -⟩ := id hl
  obtain ⟨da, dc, rfl, -, -, -⟩ := id hd
  obtain ⟨aa, ac, rfl, -, -, -⟩ := id ha.1
  obtain ⟨nl, hnl⟩ : ∃ q, q = ls.length := ⟨_, rfl⟩
  obtain ⟨nd, hnd⟩ : ∃ q, q = dr.length := ⟨_, rfl⟩
  obtain ⟨na, hna⟩ : ∃ q, q = ad.length := ⟨_, rfl⟩
  rw [← hnl] at hl ⊢
  rw [← hnd] at hd ⊢
  rw [← hna] at ha ⊢
  have HL := Lib.hid hl
  have HD := Lib.hid hd
  have HP := Lib.hid ha
  have Hnl := Lib.hid hnl
  have Hnd := Lib.hid hnd
  have Haw := Lib.hid (fun X => awake16_any X)
  obtain ⟨sm, hsm⟩ : ∃ q, q = smallR ls ad dr := ⟨_, rfl⟩
  have Hsm := Lib.hid hsm
  clear hl hd ha hnl hnd hna hsm
  have hA : Below w.heap.size w (w.alloc (.cells #[.bool wh, .int .i64 s, .slice la nl lc, .slice aa na ac, .slice da nd dc] 27)) := (Below.refl _ _).alloc (Nat.le_refl _) _
  have HK := Lib.hid (blk_of_alloc w (.cells #[.bool wh, .int .i64 s, .slice la nl lc, .slice aa na ac, .slice da nd dc] 27))
  have HB := Lib.hid hA
  obtain ⟨ob, hob⟩ : ∃ q, q = w.heap.size := ⟨_, rfl⟩
  rw [← hob] at HK
  have Hob := Lib.hid hob
  clear hA hob
  go_enter Try.func3, Try.ntmps3
  go_upto_region 1 with fail
  rw [← Hob.out]
  generalize w.alloc (.cells #[.bool wh, .int .i64 s, .slice la nl lc, .slice aa na ac, .slice da nd dc] 27) = W at *
  have hs1 := small16_any wh s _ _ _ ls ad dr W (HL.out.below HB.out) (HD.out.below HB.out) (HP.out.bel HB.out)
  rw [← Hsm.out] at hs1
  have Hs1 := Lib.hid hs1
  clear hs1
  have b0 : W.cell? ⟨ob, 0, none⟩ = some (.bool wh) := by rw [cell_blkR HK.out]; rfl
  have b1 : W.cell? ⟨ob, 1, none⟩ = some (.int .i64 s) := by rw [cell_blkR HK.out]; rfl
  have b2 : W.cell? ⟨ob, 2, none⟩ = some (.slice la nl lc) := by rw [cell_blkR HK.out]; rfl
  have b3 : W.cell? ⟨ob, 3, none⟩ = some (.slice aa na ac) := by rw [cell_blkR HK.out]; rfl
  have b4 : W.cell? ⟨ob, 4, none⟩ = some (.slice da nd dc) := by rw [cell_blkR HK.out]; rfl
  go_wp2_with fail
  refine Hs1.out.mono ?_
  rintro e w1 ⟨rfl, hb1⟩
  have HB1 := Lib.hid (HB.out.trans (hb1.mono HB.out.size))
  have HK1 := Lib.hid (blk_bels hb1 HK.out)
  clear hb1 Hs1 HB HK b0 b1 b2 b3 b4
  cases sm
  · go_wp2_with fail
    refine (Haw.out _).mono ?_
    rintro e w2 ⟨rfl, hb2⟩
    have Hb2 := Lib.hid (HB1.out.trans (hb2.mono HB1.out.size))
    clear hb2
    go_wp2_with fail
    go_ret
    exact ⟨rfl, Hb2.out⟩
  have hsb := smallR_is Hsm.out.symm
  have HAl := Lib.hid (show ad.length ≤ 100000 from by have := hsb.2.2.1; omega)
  have HRl := Lib.hid (show ∀ p ∈ ad, p.2.1.refs.length ≤ 1000000 from fun p hp => by have := (hsb.1 p hp).1; omega)
  have HSz := Lib.hid (show ∀ p ∈ ad, (fun q : Int × Mt => q.2.refs.length ≤ 1000000 ∧ q.2.a.u.size ≤ maxLen ∧ q.2.b.u.size ≤ maxLen) (p.1, p.2.1) from fun p hp => by
    obtain ⟨q1, q2, q3⟩ := hsb.1 p hp
    dsimp only
    unfold maxLen
    exact ⟨by omega, by omega, by omega⟩)
  clear hsb Hsm
  have Hr1 := Lib.hid (ref16_any wh s (.slice la nl lc) (.slice aa na ac) (.slice da nd dc) ad w1 ⟨_, _, _, rfl⟩ ⟨_, _, _, rfl⟩ (HP.out.bel HB1.out) HAl.out HRl.out)
  have b0 : w1.cell? ⟨ob, 0, none⟩ = some (.bool wh) := by rw [cell_blkR HK1.out]; rfl
  have b1 : w1.cell? ⟨ob, 1, none⟩ = some (.int .i64 s) := by rw [cell_blkR HK1.out]; rfl
  have b2 : w1.cell? ⟨ob, 2, none⟩ = some (.slice la nl lc) := by rw [cell_blkR HK1.out]; rfl
  have b3 : w1.cell? ⟨ob, 3, none⟩ = some (.slice aa na ac) := by rw [cell_blkR HK1.out]; rfl
  have b4 : w1.cell? ⟨ob, 4, none⟩ = some (.slice da nd dc) := by rw [cell_blkR HK1.out]; rfl
  go_wp2_with fail
  refine Hr1.out.mono ?_
  rintro e w3 ⟨vx, ax, rfl, hpx, hox, hb3⟩
  have HB3 := Lib.hid (HB1.out.trans (hb3.mono HB1.out.size))
  have HK3 := Lib.hid (blk_bels hb3 HK1.out)
  obtain ⟨nx, hnx⟩ : ∃ q, q = ax.length := ⟨_, rfl⟩
  have hox2 := hox.1
  rw [← hnx] at hox2
  obtain ⟨xa, xc, rfl⟩ := own_slice hox2
  have HX := Lib.hid hox.is
  have HPx := Lib.hid hpx
  clear hox2 hnx hpx hox hb3 Hr1 HB1 HK1 b0 b1 b2 b3 b4
  have hA : Below w3.heap.size w3 (w3.alloc (.cells #[.bool wh, .int .i64 s, .slice la nl lc, .slice xa nx xc, .slice da nd dc] 32)) := (Below.refl _ _).alloc (Nat.le_refl _) _
  have HK4x := Lib.hid (blk_of_alloc w3 (.cells #[.bool wh, .int .i64 s, .slice la nl lc, .slice xa nx xc, .slice da nd dc] 32))
  have HK4 := Lib.hid (blk_bels hA HK3.out)
  have HB4 := Lib.hid (HB3.out.trans (hA.mono HB3.out.size))
  have HX4 := Lib.hid (HX.out.bel hA)
  obtain ⟨xb, hxb⟩ : ∃ q, q = w3.heap.size := ⟨_, rfl⟩
  rw [← hxb] at HK4x
  have Hxb := Lib.hid hxb
  clear hA hxb HB3 HK3 HX
  go_upto_region 4 with fail
  rw [← Hxb.out]
  generalize w3.alloc (.cells #[.bool wh, .int .i64 s, .slice la nl lc, .slice xa nx xc, .slice da nd dc] 32) = w4 at *
  have Hby := Lib.hid (recbytes_any wh s _ _ _ ls ad dr w4 (HL.out.below HB4.out) (HD.out.below HB4.out) (HP.out.bel HB4.out) HAl.out HRl.out)
  have b0 : w4.cell? ⟨ob, 0, none⟩ = some (.bool wh) := by rw [cell_blkR HK4.out]; rfl
  have b1 : w4.cell? ⟨ob, 1, none⟩ = some (.int .i64 s) := by rw [cell_blkR HK4.out]; rfl
  have b2 : w4.cell? ⟨ob, 2, none⟩ = some (.slice la nl lc) := by rw [cell_blkR HK4.out]; rfl
  have b3 : w4.cell? ⟨ob, 3, none⟩ = some (.slice aa na ac) := by rw [cell_blkR HK4.out]; rfl
  have b4 : w4.cell? ⟨ob, 4, none⟩ = some (.slice da nd dc) := by rw [cell_blkR HK4.out]; rfl
  go_wp2_with fail
  refine Hby.out.mono ?_
  rintro e w5 ⟨hcase, hb5⟩
  have HB5 := Lib.hid (HB4.out.trans (hb5.mono HB4.out.size))
  have HK5 := Lib.hid (blk_bels hb5 HK4.out)
  have HK5x := Lib.hid (blk_bels hb5 HK4x.out)
  have HX5 := Lib.hid (HX4.out.bel hb5)
  have hSx := psM_sizes (P := fun q : Int × Mt => q.2.refs.length ≤ 1000000 ∧ q.2.a.u.size ≤ maxLen ∧ q.2.b.u.size ≤ maxLen) HPx.out HSz.out
  have hrg := right16_any wh s (.slice la nl lc) (.slice xa nx xc) (.slice da nd dc) ls ax dr w5 (HL.out.below HB5.out) (HD.out.below HB5.out) HX5.out (fun p hp => (hSx p hp).1) (fun p hp => (hSx p hp).2)
  rw [recOk_ps HPx.out] at hrg
  have Hs4 := Lib.hid (And.intro HB4.out.size (blk_lt HK4.out))
  clear hSx hb5 Hby HB4 HK4 HK4x HX4 b0 b1 b2 b3 b4
  rcases hcase with ⟨hok, rfl⟩ | ⟨hok, vb, rfl, hob⟩
  · rw [hok] at hrg
    have Hrg := Lib.hid hrg
    have Hok := Lib.hid hok
    clear hrg hok
    have x0 : w5.cell? ⟨xb, 0, none⟩ = some (.bool wh) := by rw [cell_blkR HK5x.out]; rfl
    have x1 : w5.cell? ⟨xb, 1, none⟩ = some (.int .i64 s) := by rw [cell_blkR HK5x.out]; rfl
    have x2 : w5.cell? ⟨xb, 2, none⟩ = some (.slice la nl lc) := by rw [cell_blkR HK5x.out]; rfl
    have x3 : w5.cell? ⟨xb, 3, none⟩ = some (.slice xa nx xc) := by rw [cell_blkR HK5x.out]; rfl
    have x4 : w5.cell? ⟨xb, 4, none⟩ = some (.slice da nd dc) := by rw [cell_blkR HK5x.out]; rfl
    go_wp2_with fail
    refine Hrg.out.mono ?_
    rintro e w6 ⟨rfl, hb6⟩
    have HB6 := Lib.hid (HB5.out.trans (hb6.mono HB5.out.size))
    have HK6 := Lib.hid (blk_bels hb6 HK5.out)
    have hck := rcheck_any wh s (.slice la nl lc) (.slice aa na ac) (.slice da nd dc) ls ad dr w6 (HL.out.below HB6.out) (HD.out.below HB6.out) (HP.out.bel HB6.out) HAl.out HRl.out
    rw [show chkR ⟨wh, s, ls, ad, dr⟩ = 20 by unfold chkR; rw [Hok.out]; rfl] at hck
    have Hck := Lib.hid hck
    clear hb6 hck HB5 HK5 HK5x HX5 Hrg x0 x1 x2 x3 x4
    have b0 : w6.cell? ⟨ob, 0, none⟩ = some (.bool wh) := by rw [cell_blkR HK6.out]; rfl
    have b1 : w6.cell? ⟨ob, 1, none⟩ = some (.int .i64 s) := by rw [cell_blkR HK6.out]; rfl
    have b2 : w6.cell? ⟨ob, 2, none⟩ = some (.slice la nl lc) := by rw [cell_blkR HK6.out]; rfl
    have b3 : w6.cell? ⟨ob, 3, none⟩ = some (.slice aa na ac) := by rw [cell_blkR HK6.out]; rfl
    have b4 : w6.cell? ⟨ob, 4, none⟩ = some (.slice da nd dc) := by rw [cell_blkR HK6.out]; rfl
    go_wp2_with fail
    refine Hck.out.mono ?_
    rintro e w7 ⟨rfl, hb7⟩
    have HB7 := Lib.hid (HB6.out.trans (hb7.mono HB6.out.size))
    clear hb7 Hck b0 b1 b2 b3 b4
    go_wp2_with fail
    refine (Haw.out _).mono ?_
    rintro e w8 ⟨rfl, hb8⟩
    have HB8 := Lib.hid (HB7.out.trans (hb8.mono HB7.out.size))
    clear hb8
    go_wp2_with fail
    go_ret
    exact ⟨rfl, HB8.out⟩
  rw [hok] at hrg
  have HIs := Lib.hid (recOk_is hok)
  have Hok := Lib.hid hok
  have Hen := Lib.hid (encR_le HIs.out)
  have hpos := encR_pos ⟨wh, s, ls, ad, dr⟩
  obtain ⟨T, hT⟩ : ∃ T, T = encR ⟨wh, s, ls, ad, dr⟩ := ⟨_, rfl⟩
  rw [← hT] at hob hpos Hen
  have HT := Lib.hid hT
  obtain ⟨n, hn⟩ : ∃ q, q = T.length := ⟨_, rfl⟩
  have hob1 := hob
  rw [OwnBs, ← hn] at hob1
  obtain ⟨gb, cap, rfl, hgb, hgl⟩ := hob1.form (by omega)
  rw [← hn] at hpos Hen
  have Hn := Lib.hid hn
  have HW := Lib.hid (show OwnBs w5 w4.heap.size (.slice (some ⟨gb, 0, none⟩) n cap) T from hob)
  have Hrg := Lib.hid hrg
  have Hgb := Lib.hid (show w.heap.size ≤ gb ∧ ob ≠ gb by have := Hs4.out; omega)
  have Hgl : Hid (gb < w5.heap.size) := Lib.hid hgl
  clear hrg hok hob hob1 hn hT hgb hgl
  have x0 : w5.cell? ⟨xb, 0, none⟩ = some (.bool wh) := by rw [cell_blkR HK5x.out]; rfl
  have x1 : w5.cell? ⟨xb, 1, none⟩ = some (.int .i64 s) := by rw [cell_blkR HK5x.out]; rfl
  have x2 : w5.cell? ⟨xb, 2, none⟩ = some (.slice la nl lc) := by rw [cell_blkR HK5x.out]; rfl
  have x3 : w5.cell? ⟨xb, 3, none⟩ = some (.slice xa nx xc) := by rw [cell_blkR HK5x.out]; rfl
  have x4 : w5.cell? ⟨xb, 4, none⟩ = some (.slice da nd dc) := by rw [cell_blkR HK5x.out]; rfl
  go_wp2_with fail
  refine Hrg.out.mono ?_
  rintro e w6 ⟨rfl, hb6⟩
  have HB6 := Lib.hid (HB5.out.trans (hb6.mono HB5.out.size))
  have HK6 := Lib.hid (blk_bels hb6 HK5.out)
  have HK6x := Lib.hid (blk_bels hb6 HK5x.out)
  have HX6 := Lib.hid (HX5.out.bel hb6)
  have HW6 := Lib.hid (own_below HW.out hb6)
  have Hgl6 : Hid (gb < w6.heap.size) := Lib.hid (Nat.lt_of_lt_of_le Hgl.out hb6.size)
  have hby := rbytes16_any wh s _ _ _ ls ax dr w6 (HL.out.below HB6.out) (HD.out.below HB6.out) HX6.out (recOk_is ((recOk_ps HPx.out).trans Hok.out))
  rw [encR_ps HPx.out, ← HT.out] at hby
  have Hby := Lib.hid hby
  clear hb6 hby HB5 HK5 HK5x HX5 Hrg x0 x1 x2 x3 x4 HW Hgl
  have x0 : w6.cell? ⟨xb, 0, none⟩ = some (.bool wh) := by rw [cell_blkR HK6x.out]; rfl
  have x1 : w6.cell? ⟨xb, 1, none⟩ = some (.int .i64 s) := by rw [cell_blkR HK6x.out]; rfl
  have x2 : w6.cell? ⟨xb, 2, none⟩ = some (.slice la nl lc) := by rw [cell_blkR HK6x.out]; rfl
  have x3 : w6.cell? ⟨xb, 3, none⟩ = some (.slice xa nx xc) := by rw [cell_blkR HK6x.out]; rfl
  have x4 : w6.cell? ⟨xb, 4, none⟩ = some (.slice da nd dc) := by rw [cell_blkR HK6x.out]; rfl
  go_wp2_with fail
  refine Hby.out.mono ?_
  rintro e w7 ⟨vt, rfl, ho7, hb7⟩
  have HB7 := Lib.hid (HB6.out.trans (hb7.mono HB6.out.size))
  have HK7 := Lib.hid (blk_bels hb7 HK6.out)
  have HW7 := Lib.hid (own_below HW6.out hb7)
  have HT7 := Lib.hid ho7
  have Hgt7 : Hid (gb < w6.heap.size) := Hgl6
  have Hgl7 : Hid (gb < w7.heap.size) := Lib.hid (Nat.lt_of_lt_of_le Hgl6.out hb7.size)
  have hck := rcheck_any wh s (.slice la nl lc) (.slice aa na ac) (.slice da nd dc) ls ad dr w7 (HL.out.below HB7.out) (HD.out.below HB7.out) (HP.out.bel HB7.out) HAl.out HRl.out
  rw [show chkR ⟨wh, s, ls, ad, dr⟩ = 0 by unfold chkR; rw [Hok.out]; rfl] at hck
  have Hck := Lib.hid hck
  rw [OwnBs, ← Hn.out] at ho7
  obtain ⟨ta, tc, rfl⟩ := own_slice ho7
  clear hb7 hck HB6 HK6 HK6x HX6 Hby x0 x1 x2 x3 x4 HW6 Hgl6 ho7
  have b0 : w7.cell? ⟨ob, 0, none⟩ = some (.bool wh) := by rw [cell_blkR HK7.out]; rfl
  have b1 : w7.cell? ⟨ob, 1, none⟩ = some (.int .i64 s) := by rw [cell_blkR HK7.out]; rfl
  have b2 : w7.cell? ⟨ob, 2, none⟩ = some (.slice la nl lc) := by rw [cell_blkR HK7.out]; rfl
  have b3 : w7.cell? ⟨ob, 3, none⟩ = some (.slice aa na ac) := by rw [cell_blkR HK7.out]; rfl
  have b4 : w7.cell? ⟨ob, 4, none⟩ = some (.slice da nd dc) := by rw [cell_blkR HK7.out]; rfl
  go_wp2_with fail
  refine Hck.out.mono ?_
  rintro e w8 ⟨rfl, hb8⟩
  have HB8 := Lib.hid (HB7.out.trans (hb8.mono HB7.out.size))
  have HK8 := Lib.hid (blk_bels hb8 HK7.out)
  have HW8 := Lib.hid (own_below HW7.out hb8)
  have HT8 := Lib.hid (own_below HT7.out hb8)
  have Hgl8 : Hid (gb < w8.heap.size) := Lib.hid (Nat.lt_of_lt_of_le Hgl7.out hb8.size)
  have Hsy := Lib.hid (same_yes (.slice (some ⟨gb, 0, none⟩) n cap) (.slice ta n tc) T w8 (isSl_own byteC_len HW8.out) (isSl_own byteC_len HT8.out))
  clear hb8 HB7 HK7 HW7 HT7 Hgl7 b0 b1 b2 b3 b4 Hck
  go_wp2_with fail
  refine Hsy.out.mono ?_
  rintro e w9 ⟨rfl, rfl⟩
  have hpa := mparse_any (.slice (some ⟨gb, 0, none⟩) n cap) T w9 (isSl_own byteC_len HW8.out) (by rw [HT.out]; exact encR_lt HIs.out) (by rw [← Hn.out]; have := Hen.out; omega)
  have hpe := parS_enc HIs.out
  rw [← HT.out] at hpe
  rw [hpe] at hpa
  have Hpa := Lib.hid hpa
  clear hpa hpe Hsy
  go_wp2_with fail
  refine Hpa.out.mono ?_
  rintro e w10 ⟨hb10, vy, ve, vz, ae, hps, hvy, hvz, hve, hcase⟩
  rcases hcase with ⟨-, rfl⟩ | ⟨hbad, rfl⟩
  rotate_left
  · rw [okPd_enc HIs.out.s0 hps Hok.out] at hbad
    cases hbad
  dsimp only at hps hvy hvz
  rw [show (decide ((if wh = true then 1 else 0) = 1) : Bool) = wh by cases wh <;> rfl, Int.toNat_of_nonneg HIs.out.s0]
  have HB10 := Lib.hid (HB8.out.trans (hb10.mono HB8.out.size))
  have HK10 := Lib.hid (blk_bels hb10 HK8.out)
  have HW10 := Lib.hid (own_below HW8.out hb10)
  have HT10 := Lib.hid (own_below HT8.out hb10)
  have Hgl10 : Hid (gb < w10.heap.size) := Lib.hid (Nat.lt_of_lt_of_le Hgl8.out hb10.size)
  obtain ⟨ne, hne⟩ : ∃ q, q = ae.length := ⟨_, rfl⟩
  have hvy2 := hvy
  have hvz2 := hvz
  have hve2 := hve.1
  rw [OwnZ, ← Hnl.out] at hvy2
  rw [OwnZ, ← Hnd.out] at hvz2
  rw [← hne] at hve2
  obtain ⟨ya, yc, rfl⟩ := own_slice hvy2
  obtain ⟨za, zc, rfl⟩ := own_slice hvz2
  obtain ⟨ea, ec, rfl⟩ := own_slice hve2
  clear hvy2 hvz2 hve2 hne
  have hA : Below w10.heap.size w10 (w10.alloc (.cells #[.bool wh, .int .i64 s, .slice ya nl yc, .slice ea ne ec, .slice za nd zc] 27)) := (Below.refl _ _).alloc (Nat.le_refl _) _
  have HY := Lib.hid (own_below hvy hA)
  have HZ := Lib.hid (own_below hvz hA)
  have HE := Lib.hid (show OwnPl (w10.alloc (.cells #[.bool wh, .int .i64 s, .slice ya nl yc, .slice ea ne ec, .slice za nd zc] 27)) w9.heap.size (.slice ea ne ec) ae from ⟨own_below hve.1 hA, fun p hp => own_below (hve.2 p hp) hA⟩)
  have HK11y := Lib.hid (blk_of_alloc w10 (.cells #[.bool wh, .int .i64 s, .slice ya nl yc, .slice ea ne ec, .slice za nd zc] 27))
  have HK11 := Lib.hid (blk_bels hA HK10.out)
  have HW11 := Lib.hid (own_below HW10.out hA)
  have HT11 := Lib.hid (own_below HT10.out hA)
  have HB11 := Lib.hid (HB10.out.trans (hA.mono HB10.out.size))
  have Hps := Lib.hid hps
  obtain ⟨rb, hrb⟩ : ∃ q, q = w10.heap.size := ⟨_, rfl⟩
  have Hrg2 : Hid (rb ≠ gb) := Lib.hid (by have := Hgl10.out; omega)
  rw [← hrb] at HK11y
  have Hrb := Lib.hid hrb
  clear hA hrb hps hvy hvz hve hb10 HB8 HK8 HW8 HT8 Hgl8 HB10 HK10 HW10 HT10 Hgl10 Hpa
  go_upto_region 11 with fail
  rw [← Hrb.out]
  generalize w10.alloc (.cells #[.bool wh, .int .i64 s, .slice ya nl yc, .slice ea ne ec, .slice za nd zc] 27) = w11 at *
  have Hall : Hid (∀ X : World, (∀ k, k ≠ gb → X.heap[k]? = w11.heap[k]?) → X.heap[ob]? = some (.cells #[.bool wh, .int .i64 s, .slice la nl lc, .slice aa na ac, .slice da nd dc] 27 (0, 0)) ∧ X.heap[rb]? = some (.cells #[.bool wh, .int .i64 s, .slice ya nl yc, .slice ea ne ec, .slice za nd zc] 27 (0, 0)) ∧ IsZs X (.slice ya nl yc) ls ∧ IsZs X (.slice za nd zc) dr ∧ IsPl X (.slice ea ne ec) ae ∧ OwnBs X w6.heap.size (.slice ta n tc) T) := Lib.hid (fun X hX => by
    obtain ⟨-, h0 | ⟨g, cp, cur, hv, -, hgh, -⟩⟩ := HW11.out
    · have := h0.1; cases this
    · injection hv with hv
      injection hv with hv
      injection hv with hv
      subst hv
      refine ⟨(hX _ Hgb.out.2).trans HK11.out, (hX _ Hrg2.out).trans HK11y.out, ?_, ?_, ?_, own_behind HT11.out Hgt7.out hX⟩
      · exact isSl_own zzC_len (own_other HY.out hgh (by decide) hX)
      · exact isSl_own zzC_len (own_other HZ.out hgh (by decide) hX)
      · exact OwnPl.is ⟨own_other HE.out.1 hgh (by decide) hX, fun p hp => own_other (HE.out.2 p hp) hgh (by decide) hX⟩)
  clear HK11 HK11y HY HZ HE HT11
  have hWi : ∃ xs : List Value, w11.ownsRow w4.heap.size 5 1 (.slice (some ⟨gb, 0, none⟩) n cap) n xs ∧ ∀ (j : Nat) x, xs[j]? = some x → ∃ z : Int, x = .int .u8 z := by
    have h := HW11.out
    rw [← Hn.out] at h
    refine ⟨_, h, fun j x hx => ?_⟩
    have h1 := List.mem_of_getElem? hx
    obtain ⟨y, -, hy⟩ := List.mem_flatMap.1 h1
    simp only [byteC, List.mem_singleton] at hy
    exact ⟨_, hy⟩
  have HWi := Lib.hid hWi
  clear hWi HW11
  have hn64 : n ≤ 100000 := by have := Hen.out; omega
  go_wp2_with fail
  go_loopw [61] (fun iv wr => ∃ k : Nat, k ≤ n ∧ iv = .int .i64 k ∧ (∃ xs : List Value, wr.ownsRow w4.heap.size 5 1 (.slice (some ⟨gb, 0, none⟩) n cap) n xs ∧ ∀ (j : Nat) x, xs[j]? = some x → ∃ z : Int, x = .int .u8 z) ∧ (∀ k, k ≠ gb → wr.heap[k]? = w11.heap[k]?) ∧ Below w.heap.size w wr) (fun i _ => n - (intOf i).toNat)
  case atStart => exact ⟨0, Nat.zero_le _, rfl, HWi.out, fun _ _ => rfl, HB11.out⟩
  case round =>
    obtain ⟨k, hk, rfl, ⟨xs, hxs, hxz⟩, ho, hb⟩ := hrel
    obtain ⟨wo, rfl⟩ : ∃ wo : World, wo = wr := ⟨_, rfl⟩
    have Hxs := Lib.hid hxs
    have Hxz := Lib.hid hxz
    have Ho := Lib.hid ho
    have Hb := Lib.hid hb
    clear hxs hxz ho hb
    by_cases hkn : k < n
    · have hlt : (k : Int) < (n : Int) := by omega
      have hlen := Hxs.out.1
      obtain ⟨z, hz⟩ := Hxz.out k _ (List.getElem?_eq_getElem (by omega))
      have c1 : wo.cell? ⟨gb, k, none⟩ = some (.int .u8 z) := by
        rw [Hxs.out.cellAt k (by omega), List.getElem?_eq_getElem (by omega), hz]
      have c2 : wo.frozen? ⟨gb, k, none⟩ = false := Hxs.out.frozenAt k
      clear hlen hz
      go_upto_region 14 with fail
      go_wp2_with fail
      go_roundw
      case rel =>
        refine ⟨k + 1, by omega, by go_num, ⟨_, (Hxs.out.stored k _).1, fun j x hx => ?_⟩, fun j hj => (Below.heap_setCell _ _ _ _ hj).trans (Ho.out j hj), Hb.out.setCell Hgb.out.1 _⟩
        rw [List.getElem?_set] at hx
        split at hx
        · split at hx
          · injection hx with hx
            exact ⟨_, hx.symm⟩
          · cases hx
        · exact Hxz.out j x hx
      case measure => simp [intOf]; omega
    · have hlt : ¬ (k : Int) < (n : Int) := by omega
      obtain rfl : k = n := by omega
      obtain ⟨hko, hkr, hy, hz, he, ht⟩ := Hall.out wo Ho.out
      have HKo := Lib.hid hko
      have HKr := Lib.hid hkr
      have Hin := ints_any (.slice ya nl yc) (.slice la nl lc) ls ls wo hy (HL.out.below Hb.out)
      rw [decide_eq_true rfl] at Hin
      have HIn := Lib.hid Hin
      have HY := Lib.hid hy
      have HZ := Lib.hid hz
      have HE := Lib.hid he
      have HT12 := Lib.hid ht
      have HaeL := Lib.hid (show ae.length ≤ 100000 from by
        have h := congrArg List.length Hps.out
        unfold psM at h
        rw [List.length_map, List.length_map] at h
        have := HAl.out
        omega)
      have HaeR := Lib.hid (show ∀ p ∈ ae, p.2.1.refs.length ≤ 1000000 from fun p hp => (psM_sizes (P := fun q : Int × Mt => q.2.refs.length ≤ 1000000 ∧ q.2.a.u.size ≤ maxLen ∧ q.2.b.u.size ≤ maxLen) Hps.out HSz.out p hp).1)
      have d1 : decide (s = s) = true := decide_eq_true rfl
      clear Hin hko hkr hy hz he ht
      have y0 : wo.cell? ⟨rb, 0, none⟩ = some (.bool wh) := by rw [cell_blkR HKr.out]; rfl
      have y1 : wo.cell? ⟨rb, 1, none⟩ = some (.int .i64 s) := by rw [cell_blkR HKr.out]; rfl
      have y2 : wo.cell? ⟨rb, 2, none⟩ = some (.slice ya nl yc) := by rw [cell_blkR HKr.out]; rfl
      have y3 : wo.cell? ⟨rb, 3, none⟩ = some (.slice ea ne ec) := by rw [cell_blkR HKr.out]; rfl
      have y4 : wo.cell? ⟨rb, 4, none⟩ = some (.slice za nd zc) := by rw [cell_blkR HKr.out]; rfl
      have b0 : wo.cell? ⟨ob, 0, none⟩ = some (.bool wh) := by rw [cell_blkR HKo.out]; rfl
      have b1 : wo.cell? ⟨ob, 1, none⟩ = some (.int .i64 s) := by rw [cell_blkR HKo.out]; rfl
      have b2 : wo.cell? ⟨ob, 2, none⟩ = some (.slice la nl lc) := by rw [cell_blkR HKo.out]; rfl
      have b3 : wo.cell? ⟨ob, 3, none⟩ = some (.slice aa na ac) := by rw [cell_blkR HKo.out]; rfl
      have b4 : wo.cell? ⟨ob, 4, none⟩ = some (.slice da nd dc) := by rw [cell_blkR HKo.out]; rfl
      go_wp2_with fail
      refine HIn.out.mono ?_
      rintro e w12 ⟨rfl, hb12⟩
      have HB12 := Lib.hid (Hb.out.trans (hb12.mono Hb.out.size))
      have HK12 := Lib.hid (blk_bels hb12 HKr.out)
      have HT13 := Lib.hid (own_below HT12.out hb12)
      have Hr2 := Lib.hid (ref16_any wh s (.slice ya nl yc) (.slice ea ne ec) (.slice za nd zc) ae w12 ⟨_, _, _, rfl⟩ ⟨_, _, _, rfl⟩ (HE.out.bel hb12) HaeL.out HaeR.out)
      have HY12 := Lib.hid (HY.out.below hb12)
      have HZ12 := Lib.hid (HZ.out.below hb12)
      clear hb12 HIn b0 b1 b2 b3 b4 y0 y1 y2 y3 y4 HKo HKr HT12 HY HZ HE
      have y0 : w12.cell? ⟨rb, 0, none⟩ = some (.bool wh) := by rw [cell_blkR HK12.out]; rfl
      have y1 : w12.cell? ⟨rb, 1, none⟩ = some (.int .i64 s) := by rw [cell_blkR HK12.out]; rfl
      have y2 : w12.cell? ⟨rb, 2, none⟩ = some (.slice ya nl yc) := by rw [cell_blkR HK12.out]; rfl
      have y3 : w12.cell? ⟨rb, 3, none⟩ = some (.slice ea ne ec) := by rw [cell_blkR HK12.out]; rfl
      have y4 : w12.cell? ⟨rb, 4, none⟩ = some (.slice za nd zc) := by rw [cell_blkR HK12.out]; rfl
      go_wp2_with fail
      refine Hr2.out.mono ?_
      rintro e w14 ⟨vx2, ax2, rfl, hpx2, hox2, hb14⟩
      have HB14 := Lib.hid (HB12.out.trans (hb14.mono HB12.out.size))
      have HT14 := Lib.hid (own_below HT13.out hb14)
      have hpp : psM ax2 = psM ad := hpx2.trans Hps.out
      have hby := rbytes16_any wh s _ _ _ ls ax2 dr w14 (HY12.out.below hb14) (HZ12.out.below hb14) hox2.is (recOk_is ((recOk_ps hpp).trans Hok.out))
      rw [encR_ps hpp, ← HT.out] at hby
      obtain ⟨n2, hn2⟩ : ∃ q, q = ax2.length := ⟨_, rfl⟩
      have hox3 := hox2.1
      rw [← hn2] at hox3
      obtain ⟨xa2, xc2, rfl⟩ := own_slice hox3
      have Hby := Lib.hid hby
      clear hox3 hn2 hby hpp hpx2 hox2 hb14 Hr2 y0 y1 y2 y3 y4
      go_wp2_with fail
      refine Hby.out.mono ?_
      rintro e w15 ⟨vq, rfl, hoq, hb15⟩
      have HB15 := Lib.hid (HB14.out.trans (hb15.mono HB14.out.size))
      have Hsm := Lib.hid (same_yes vq (.slice ta k tc) T w15 (isSl_own byteC_len hoq) (isSl_own byteC_len (own_below HT14.out hb15)))
      rw [OwnBs, ← Hn.out] at hoq
      obtain ⟨qa, qc, rfl⟩ := own_slice hoq
      clear hoq hb15 Hby
      go_wp2_with fail
      refine Hsm.out.mono ?_
      rintro e w16 ⟨rfl, rfl⟩
      go_wp2_with fail
      refine (Haw.out _).mono ?_
      rintro e w17 ⟨rfl, hb17⟩
      have HB17 := Lib.hid (HB15.out.trans (hb17.mono HB15.out.size))
      clear hb17
      go_wp2_with fail
      go_ret
      exact ⟨rfl, HB17.out⟩
end Go.Proofs.Ythjjelomlgmllaa.Tithe
