/- manifest.Parse: walked (printed by mkmanpar.py). -/
import Derived.Test.YthjjelomlgmllaaManParP
import Derived.Test.YthjjelomlgmllaaManChk
namespace Go.Proofs.Ythjjelomlgmllaa.Tithe
open Go.RowKit Go.Sort Go.Shelf
set_option linter.unusedVariables false
set_option linter.unusedSimpArgs false
set_option maxRecDepth 100000
/-- was it read well? -/
def okPd (p : Pd) (ad : List (Int × Mr)) : Bool := !p.s.sb && decide (p.wh ≤ 1) && (!p.s.bad && p.s.cs.isEmpty) && recOk ⟨decide (p.wh = 1), (p.sq : Int), p.lg, ad, p.dr⟩
def ParOut (w : World) (p : Pd) (e : Ending) (w' : World) : Prop := Below w.heap.size w w' ∧ ∃ (vl va vd : Value) (ad : List (Int × Mr)), psM ad = p.ad ∧ OwnZ w' w.heap.size vl p.lg ∧ OwnZ w' w.heap.size vd p.dr ∧ OwnPl w' w.heap.size va ad ∧
  ((okPd p ad = true ∧ e = .returned (.tuple #[.agg #[.bool (decide (p.wh = 1)), .int .i64 (p.sq : Int), vl, va, vd], .int .i64 0])) ∨ (okPd p ad = false ∧ e = .returned (.tuple #[.agg #[.bool false, .int .i64 0, .slice none 0 0, .slice none 0 0, .slice none 0 0], .int .i64 20])))
attribute [local go_sem] Oper.semAt_some
set_option maxHeartbeats 12800000 in
theorem mparse_any (v : Value) (bs : List Nat) (w : World) (h : IsBs w v bs) (hb : ∀ x ∈ bs, x < 256) (hl : bs.length ≤ 100000) :
    Calls Try.prog 17 #[v] w fun e w' => ParOut w (parS bs) e w' := by
  obtain ⟨ob, hob⟩ : ∃ q, q = w.heap.size := ⟨_, rfl⟩
  have hA : Below w.heap.size w (w.alloc (.cells #[.bool false, .int .i64 0, .slice none 0 0, .slice none 0 0, .slice none 0 0] 27)) := (Below.refl _ _).alloc (Nat.le_refl _) _
  have HK := Lib.hid (blk_of_alloc w (.cells #[.bool false, .int .i64 0, .slice none 0 0, .slice none 0 0, .slice none 0 0] 27))
  have Hnr := Lib.hid (newreader_bs v bs _ (h.below hA) (by omega))
  have HA := Lib.hid hA
  have Hob := Lib.hid hob
  have Hlt := Lib.hid hb
  have Hle := Lib.hid hl
  obtain ⟨a, c, rfl, -, -, -⟩ := id h
  obtain ⟨bn, hbn⟩ : ∃ q, q = bs.length := ⟨_, rfl⟩
  rw [← hbn] at Hnr ⊢
  rw [← hob] at HK
  have hos : ob < (w.alloc (.cells #[.bool false, .int .i64 0, .slice none 0 0, .slice none 0 0, .slice none 0 0] 27)).heap.size := blk_lt HK.out
  have Hos := Lib.hid hos
  obtain ⟨P, hP⟩ : ∃ q, q = parS bs := ⟨_, rfl⟩
  have HP := Lib.hid hP
  rw [← hP]
  clear hA h hb hl hob hos hbn hP
  go_enter Try.func17, Try.ntmps17
  go_upto_region 1 with fail
  rw [← Hob.out]
  generalize w.alloc (.cells #[.bool false, .int .i64 0, .slice none 0 0, .slice none 0 0, .slice none 0 0] 27) = Wa at *
  go_wp2_with fail
  refine Hnr.out.mono ?_
  rintro e wr0 ⟨w0, rb, rfl, hrd, hrb, hbel⟩
  have hrl : rb < wr0.heap.size := by obtain ⟨v, hv, -⟩ := hrd.ex; exact blk_lt hv
  have hx1 : Below wr0.heap.size wr0 (wr0.alloc (.cells #[.pointer (some ⟨rb, 0, none⟩), .bool false] 107)) := (Below.refl _ _).alloc (Nat.le_refl _) _
  have hx2 := blk_of_alloc wr0 (.cells #[.pointer (some ⟨rb, 0, none⟩), .bool false] 107)
  obtain ⟨xb, hxb⟩ : ∃ q, q = wr0.heap.size := ⟨_, rfl⟩
  rw [← hxb] at hx2 hrl
  have hso : IsSo w0 (wr0.alloc (.cells #[.pointer (some ⟨rb, 0, none⟩), .bool false] 107)) xb rb ⟨bs, false, false⟩ := ⟨hx2, hrd.below2 hx1, hrl, Hlt.out, Hle.out⟩
  have hob1 := blk_bels hx1 (blk_bels hbel HK.out)
  have hbelx := HA.out.trans ((hbel.trans (hx1.mono hbel.size)).mono HA.out.size)
  have Hobn : Hid (ob < rb ∧ ob < xb ∧ w.heap.size ≤ rb) := Lib.hid (by have := Hos.out; have := HA.out.size; omega)
  obtain ⟨W1, hW1⟩ : ∃ q : World, q = wr0.alloc (.cells #[.pointer (some ⟨rb, 0, none⟩), .bool false] 107) := ⟨_, rfl⟩
  have Hxb := Lib.hid hxb
  rw [← hW1] at hso hob1 hbelx
  have HW1 := Lib.hid hW1
  clear hrd hrb hbel hrl hx1 hx2 hxb Hnr HA HK Hos hW1
  -- the record
  have hy1 : Below W1.heap.size W1 (W1.alloc (.cells #[.bool false, .int .i64 0, .slice none 0 0, .slice none 0 0, .slice none 0 0] 27)) := (Below.refl _ _).alloc (Nat.le_refl _) _
  have HR2 := Lib.hid (blk_of_alloc W1 (.cells #[.bool false, .int .i64 0, .slice none 0 0, .slice none 0 0, .slice none 0 0] 27))
  have Hs2 := Lib.hid (hso.bel hy1)
  have Hk2 : Hid (KpS W1 _ xb rb) := Lib.hid (KpS.of_bel hy1)
  have Hso1 := Lib.hid hso
  have Hob1 := Lib.hid hob1
  have Hb1 := Lib.hid hbelx
  obtain ⟨rr, hrr⟩ : ∃ q, q = W1.heap.size := ⟨_, rfl⟩
  have Hne : Hid (W1.heap.size ≤ rr ∧ rr ≠ xb ∧ rr ≠ rb) := Lib.hid (by have := hso.rlt; omega)
  have Hrr := Lib.hid hrr
  have HwW : Hid (w.heap.size ≤ W1.heap.size) := Lib.hid hbelx.size
  have Hw0 : Hid (w0.heap.size ≤ W1.heap.size) := Lib.hid hso.rd.below.size
  rw [← hrr] at HR2
  clear hy1 hso hob1 hbelx hrr
  go_upto_region 2 with fail
  rw [← Hxb.out, ← HW1.out]
  clear Hxb HW1
  go_upto_region 3 with fail
  rw [← Hrr.out]
  generalize W1.alloc (.cells #[.bool false, .int .i64 0, .slice none 0 0, .slice none 0 0, .slice none 0 0] 27) = W2 at *
  have c0 := so_c0 Hs2.out
  obtain ⟨⟨wh, s1⟩, hx1⟩ : ∃ p, p = numS ⟨bs, false, false⟩ := ⟨_, rfl⟩
  have Hx1 := Lib.hid hx1
  have Hn := Lib.hid (number_so Hs2.out)
  rw [← hx1] at Hn
  dsimp only at Hn
  clear hx1
  go_wp2_with fail
  refine Hn.out.mono ?_
  rintro e wq1 ⟨rfl, hq1, hg1⟩
  clear c0 Hn
  obtain ⟨wb0, hwb0⟩ : ∃ q, q = decide (wh = 1) := ⟨_, rfl⟩
  have Hwb0 := Lib.hid hwb0
  have hw1 : ((wh : Int) == 1) = wb0 := by rw [hwb0]; by_cases q : wh = 1 <;> simp [q]; omega
  have hw2 : decide ((wh : Int) = 1) = wb0 := by rw [hwb0]; by_cases q : wh = 1 <;> simp [q]; omega
  clear hwb0
  have hb1 := hg1.at HR2.out Hne.out.2.1 Hne.out.2.2
  have tf0x1 := frozen_blkR hb1 0
  have tc0x1 : wq1.cell? ⟨rr, 0, none⟩ = some (.bool false) := by rw [cell_blkR hb1]; rfl
  have hB1 : (wq1.setCell ⟨rr, 0, none⟩ (.bool wb0)).heap[rr]? = some (.cells #[.bool wb0, .int .i64 0, .slice none 0 0, .slice none 0 0, .slice none 0 0] 27 (0, 0)) := by
    rw [blk_setCellR hb1]; rfl
  obtain ⟨hs1, hk1⟩ := so_set hq1 (Hk2.out.trans hg1) Hw0.out Hne.out.1 Hne.out.2.1 Hne.out.2.2 0 (.bool wb0)
  have HB1 := Lib.hid hB1
  have Hs1 := Lib.hid hs1
  have Hk1 := Lib.hid hk1
  clear hb1 hB1 hs1 hk1
  clear hq1 hg1
  go_upto_region 5 with fail
  generalize wq1.setCell ⟨rr, 0, none⟩ (.bool wb0) = W1x at *
  clear tf0x1 tc0x1 hw1 hw2
  have c0 := so_c0 Hs1.out
  obtain ⟨⟨sq, s2⟩, hx2⟩ : ∃ p, p = numS s1 := ⟨_, rfl⟩
  have Hx2 := Lib.hid hx2
  have Hn := Lib.hid (number_so Hs1.out)
  rw [← hx2] at Hn
  dsimp only at Hn
  clear hx2
  go_wp2_with fail
  refine Hn.out.mono ?_
  rintro e wq2 ⟨rfl, hq2, hg2⟩
  clear c0 Hn
  have hb2 := hg2.at HB1.out Hne.out.2.1 Hne.out.2.2
  have tf0x2 := frozen_blkR hb2 1
  have tc0x2 : wq2.cell? ⟨rr, 1, none⟩ = some (.int .i64 0) := by rw [cell_blkR hb2]; rfl
  have hB2 : (wq2.setCell ⟨rr, 1, none⟩ (.int .i64 (sq : Nat))).heap[rr]? = some (.cells #[.bool wb0, .int .i64 (sq : Nat), .slice none 0 0, .slice none 0 0, .slice none 0 0] 27 (0, 0)) := by
    rw [blk_setCellR hb2]; rfl
  obtain ⟨hs2, hk2⟩ := so_set hq2 (Hk1.out.trans hg2) Hw0.out Hne.out.1 Hne.out.2.1 Hne.out.2.2 1 (.int .i64 (sq : Nat))
  have HB2 := Lib.hid hB2
  have Hs2 := Lib.hid hs2
  have Hk2 := Lib.hid hk2
  clear hb2 hB2 hs2 hk2
  clear hq2 hg2
  go_upto_region 6 with fail
  generalize wq2.setCell ⟨rr, 1, none⟩ (.int .i64 (sq : Nat)) = W2 at *
  clear tf0x2 tc0x2
  obtain ⟨⟨lg, s3⟩, hx3⟩ : ∃ p, p = lstS s2 := ⟨_, rfl⟩
  have Hx3 := Lib.hid hx3
  have hn := list_any w0 _ xb rb _ Hs2.out
  rw [← hx3] at hn
  dsimp only at hn
  have Hn := Lib.hid hn
  clear hx3 hn
  go_wp2_with fail
  refine Hn.out.mono ?_
  rintro e wq3 ⟨v3, rfl, ho3, hq3, hg3⟩
  clear Hn
  obtain ⟨ln3, hln3⟩ : ∃ q, q = lg.length := ⟨_, rfl⟩
  have Hln3 := Lib.hid hln3
  have hoo3 := ho3
  rw [OwnZ, ← hln3] at hoo3
  obtain ⟨la3, lc3, rfl⟩ := own_slice hoo3
  clear hln3 hoo3
  have hoB3 := hg3.at HB2.out Hne.out.2.1 Hne.out.2.2
  have ho23 : OwnZ (wq3.setCell ⟨rr, 2, none⟩ (.slice la3 ln3 lc3)) W1.heap.size (.slice la3 ln3 lc3) lg := own_mono (own_struct ho3 hoB3 (by decide) 2 _) Hk2.out.1
  have HO3 := Lib.hid ho23
  clear ho23 hoB3 ho3
  have hb3 := hg3.at HB2.out Hne.out.2.1 Hne.out.2.2
  have tf0x3 := frozen_blkR hb3 2
  have tc0x3 : wq3.cell? ⟨rr, 2, none⟩ = some (.slice none 0 0) := by rw [cell_blkR hb3]; rfl
  have hB3 : (wq3.setCell ⟨rr, 2, none⟩ (.slice la3 ln3 lc3)).heap[rr]? = some (.cells #[.bool wb0, .int .i64 (sq : Nat), .slice la3 ln3 lc3, .slice none 0 0, .slice none 0 0] 27 (0, 0)) := by
    rw [blk_setCellR hb3]; rfl
  obtain ⟨hs3, hk3⟩ := so_set hq3 (Hk2.out.trans hg3) Hw0.out Hne.out.1 Hne.out.2.1 Hne.out.2.2 2 (.slice la3 ln3 lc3)
  have HB3 := Lib.hid hB3
  have Hs3 := Lib.hid hs3
  have Hk3 := Lib.hid hk3
  clear hb3 hB3 hs3 hk3
  clear hq3 hg3
  go_upto_region 7 with fail
  generalize wq3.setCell ⟨rr, 2, none⟩ (.slice la3 ln3 lc3) = W3 at *
  clear tf0x3 tc0x3
  obtain ⟨⟨dr, s4⟩, hx4⟩ : ∃ p, p = lstS s3 := ⟨_, rfl⟩
  have Hx4 := Lib.hid hx4
  have hn := list_any w0 _ xb rb _ Hs3.out
  rw [← hx4] at hn
  dsimp only at hn
  have Hn := Lib.hid hn
  clear hx4 hn
  go_wp2_with fail
  refine Hn.out.mono ?_
  rintro e wq4 ⟨v4, rfl, ho4, hq4, hg4⟩
  clear Hn
  obtain ⟨ln4, hln4⟩ : ∃ q, q = dr.length := ⟨_, rfl⟩
  have Hln4 := Lib.hid hln4
  have hoo4 := ho4
  rw [OwnZ, ← hln4] at hoo4
  obtain ⟨la4, lc4, rfl⟩ := own_slice hoo4
  clear hln4 hoo4
  have hoB4 := hg4.at HB3.out Hne.out.2.1 Hne.out.2.2
  have ho24 : OwnZ (wq4.setCell ⟨rr, 4, none⟩ (.slice la4 ln4 lc4)) W1.heap.size (.slice la4 ln4 lc4) dr := own_mono (own_struct ho4 hoB4 (by decide) 4 _) Hk3.out.1
  have ro0x4 : OwnZ (wq4.setCell ⟨rr, 4, none⟩ (.slice la4 ln4 lc4)) W1.heap.size (.slice la3 ln3 lc3) lg := own_struct (Hs3.out.own HO3.out hg4 (by decide) (by decide)) hoB4 (by decide) 4 _
  have RO0x4 := Lib.hid ro0x4
  clear ro0x4
  have HO4 := Lib.hid ho24
  clear ho24 hoB4 ho4
  have hb4 := hg4.at HB3.out Hne.out.2.1 Hne.out.2.2
  have tf0x4 := frozen_blkR hb4 4
  have tc0x4 : wq4.cell? ⟨rr, 4, none⟩ = some (.slice none 0 0) := by rw [cell_blkR hb4]; rfl
  have hB4 : (wq4.setCell ⟨rr, 4, none⟩ (.slice la4 ln4 lc4)).heap[rr]? = some (.cells #[.bool wb0, .int .i64 (sq : Nat), .slice la3 ln3 lc3, .slice none 0 0, .slice la4 ln4 lc4] 27 (0, 0)) := by
    rw [blk_setCellR hb4]; rfl
  obtain ⟨hs4, hk4⟩ := so_set hq4 (Hk3.out.trans hg4) Hw0.out Hne.out.1 Hne.out.2.1 Hne.out.2.2 4 (.slice la4 ln4 lc4)
  have HB4 := Lib.hid hB4
  have Hs4 := Lib.hid hs4
  have Hk4 := Lib.hid hk4
  clear hb4 hB4 hs4 hk4
  clear hq4 hg4
  go_upto_region 8 with fail
  generalize wq4.setCell ⟨rr, 4, none⟩ (.slice la4 ln4 lc4) = W4 at *
  clear tf0x4 tc0x4
  have hle5 := cntS_le s4
  obtain ⟨⟨m, s5⟩, hx5⟩ : ∃ p, p = cntS s4 := ⟨_, rfl⟩
  have Hx5 := Lib.hid hx5
  have hn := count_any w0 _ xb rb _ Hs4.out
  rw [← hx5] at hn hle5
  dsimp only at hn hle5
  have Hn := Lib.hid hn
  clear hx5 hn
  go_wp2_with fail
  refine Hn.out.mono ?_
  rintro e wq5 ⟨rfl, hq5, hg5⟩
  clear Hn
  have HB5 := Lib.hid (hg5.at HB4.out Hne.out.2.1 Hne.out.2.2)
  have Hs5 := Lib.hid hq5
  have Hk5 := Lib.hid (Hk4.out.trans hg5)
  have RO0x5 := Lib.hid (Hs4.out.own RO0x4.out hg5 (by decide) (by decide))
  have RO1x5 := Lib.hid (Hs4.out.own HO4.out hg5 (by decide) (by decide))
  clear hq5 hg5
  go_wp2_with fail
  obtain ⟨AD, hAD⟩ : ∃ q, q = adN m s5 := ⟨_, rfl⟩
  have HAD := Lib.hid hAD
  clear hAD
  go_loopw [36] (fun iv wr => ∃ (k : Nat) (d : List (Int × Mr)) (st : So) (va : Value), k ≤ m ∧ iv = .int .i64 k ∧ d.length = k ∧ AD = (psM d ++ (adN (m - k) st).1, (adN (m - k) st).2) ∧ IsSo w0 wr xb rb st ∧ KpS W1 wr xb rb ∧ wr.heap[rr]? = some (.cells #[.bool wb0, .int .i64 (sq : Nat), .slice la3 ln3 lc3, va, .slice la4 ln4 lc4] 27 (0, 0)) ∧ OwnZ wr W1.heap.size (.slice la3 ln3 lc3) lg ∧ OwnZ wr W1.heap.size (.slice la4 ln4 lc4) dr ∧ OwnPl wr W1.heap.size va d ∧ ∀ p ∈ d, p.2.1.refs.length ≤ 64) (fun i _ => m - (intOf i).toNat)
  case atStart => exact ⟨0, [], s5, .slice none 0 0, Nat.zero_le _, rfl, rfl, by rw [HAD.out]; rfl, Hs5.out, Hk5.out, HB5.out, RO0x5.out, RO1x5.out, OwnPl.nil _ _, fun p hp => by cases hp⟩
  case round =>
    skip
    obtain ⟨wo, rfl⟩ : ∃ wo : World, wo = wr := ⟨_, rfl⟩
    obtain ⟨k, d, st, va, hk, rfl, hd, had, hs, hkw, hrb, hvl, hvd, hpl, hrl⟩ := hrel
    have Had := Lib.hid had
    have Hso := Lib.hid hs
    have Hkw := Lib.hid hkw
    have Hrb := Lib.hid hrb
    have Hvl := Lib.hid hvl
    have Hvd := Lib.hid hvd
    have Hpl := Lib.hid hpl
    have Hrl := Lib.hid hrl
    obtain ⟨aa, ac, rfl⟩ := own_slice hpl.1
    rw [hd] at Hrb
    have Hd := Lib.hid hd.symm
    clear had hs hkw hrb hvl hvd hpl hd hrl
    by_cases hkm : k < m
    rotate_left
    · obtain rfl : k = m := by omega
      have Hf : Hid (AD = (psM d, st)) := Lib.hid (by rw [Had.out, Nat.sub_self]; show (psM d ++ [], st) = _; rw [List.append_nil])
      have HPe : Hid (P = ⟨wh, sq, lg, dr, psM d, st⟩) := Lib.hid (by
        rw [HP.out]
        have e : adS s4 = (psM d, st) := by unfold adS; rw [← Hx5.out]; dsimp only; rw [← HAD.out, Hf.out]
        simp only [parS, Hx1.out.symm, Hx2.out.symm, Hx3.out.symm, Hx4.out.symm, e])
      have Hpl2 : Hid (OwnPl wo W1.heap.size (.slice aa k ac) d) := Lib.hid (by rw [Hd.out]; exact Hpl.out)
      have Hdn := Lib.hid (done_any w0 wo rb st.cs st.bad Hso.out.rd)
      have hckr := rcheck_any wb0 (sq : Int) (.slice la3 ln3 lc3) (.slice aa k ac) (.slice la4 ln4 lc4) lg d dr wo (isSl_own zzC_len Hvl.out) (isSl_own zzC_len Hvd.out) Hpl2.out.is (by have := Hd.out; omega) (fun p hp => by have := Hrl.out p hp; omega)
      obtain ⟨rk, hrk⟩ : ∃ q, q = recOk ⟨wb0, (sq : Int), lg, d, dr⟩ := ⟨_, rfl⟩
      unfold chkR at hckr
      rw [← hrk] at hckr
      have Hckr := Lib.hid hckr
      have Hokd : Hid (okPd P d = (!st.sb && decide (wh ≤ 1) && (!st.bad && st.cs.isEmpty) && rk)) := Lib.hid (by rw [HPe.out, hrk]; unfold okPd; rw [← Hwb0.out])
      obtain ⟨dc, hdc⟩ : ∃ q, q = (!st.bad && st.cs.isEmpty) := ⟨_, rfl⟩
      rw [← hdc] at Hdn Hokd
      obtain ⟨sbv, hsbv⟩ : ∃ q, q = st.sb := ⟨_, rfl⟩
      rw [← hsbv] at Hokd
      have c0 := so_c0 Hso.out
      have c1 : wo.cell? ⟨xb, 1, none⟩ = some (.bool sbv) := by rw [hsbv, cell_blkR Hso.out.blk]; rfl
      have r0 : wo.cell? ⟨rr, 0, none⟩ = some (.bool wb0) := by rw [cell_blkR Hrb.out]; rfl
      have r1 : wo.cell? ⟨rr, 1, none⟩ = some (.int .i64 (sq : Nat)) := by rw [cell_blkR Hrb.out]; rfl
      have r2 : wo.cell? ⟨rr, 2, none⟩ = some (.slice la3 ln3 lc3) := by rw [cell_blkR Hrb.out]; rfl
      have r3 : wo.cell? ⟨rr, 3, none⟩ = some (.slice aa k ac) := by rw [cell_blkR Hrb.out]; rfl
      have r4 : wo.cell? ⟨rr, 4, none⟩ = some (.slice la4 ln4 lc4) := by rw [cell_blkR Hrb.out]; rfl
      clear hckr hrk hdc hsbv
      cases sbv with
      | true =>
        have Hok : Hid (okPd P d = false) := Lib.hid (by rw [Hokd.out]; rfl)
        have hobx := Hkw.out.at Hob1.out (by have := Hobn.out; omega) (by have := Hobn.out; omega)
        have HF := Lib.hid (par_fin (Hb1.out.trans ((Hso1.out.blw Hso.out Hkw.out Hobn.out.2.2 HwW.out).mono (Nat.le_refl _))) (by rw [Hob.out]; exact Nat.le_refl _) hobx Hvl.out Hvd.out Hpl2.out HwW.out (.bool false) (.int .i64 0) (.slice none 0 0) (.slice none 0 0) (.slice none 0 0))
        have Hres := Lib.hid (set5 hobx (.bool false) (.int .i64 0) (.slice none 0 0) (.slice none 0 0) (.slice none 0 0))
        have x0 := frozen_blkR hobx 0
        have x1 := frozen_blkR hobx 1
        have x2 := frozen_blkR hobx 2
        have x3 := frozen_blkR hobx 3
        have x4 := frozen_blkR hobx 4
        have y0 : wo.cell? ⟨ob, 0, none⟩ = some (.bool false) := by rw [cell_blkR hobx]; rfl
        have y1 : wo.cell? ⟨ob, 1, none⟩ = some (.int .i64 0) := by rw [cell_blkR hobx]; rfl
        have y2 : wo.cell? ⟨ob, 2, none⟩ = some (.slice none 0 0) := by rw [cell_blkR hobx]; rfl
        have y3 : wo.cell? ⟨ob, 3, none⟩ = some (.slice none 0 0) := by rw [cell_blkR hobx]; rfl
        have y4 : wo.cell? ⟨ob, 4, none⟩ = some (.slice none 0 0) := by rw [cell_blkR hobx]; rfl
        clear hobx
        go_wp2_with fail
        refine bodyPost_ret (v := .tuple #[.agg #[.bool false, .int .i64 0, .slice none 0 0, .slice none 0 0, .slice none 0 0], .int .i64 20]) ?_ rfl ⟨HF.out.1, _, _, _, d, by rw [HPe.out], by rw [HPe.out]; exact HF.out.2.1, by rw [HPe.out]; exact HF.out.2.2.1, HF.out.2.2.2, .inr ⟨Hok.out, rfl⟩⟩
        have hres := Hres.out
        have z0 := cell_blkR hres 0
        have z1 := cell_blkR hres 1
        have z2 := cell_blkR hres 2
        have z3 := cell_blkR hres 3
        have z4 := cell_blkR hres 4
        simp only [List.getElem?_toArray, List.getElem?_cons_zero, List.getElem?_cons_succ] at z0 z1 z2 z3 z4
        generalize (((((wo.setCell ⟨ob, 0, none⟩ (.bool false)).setCell ⟨ob, 1, none⟩ (.int .i64 0)).setCell ⟨ob, 2, none⟩ (.slice none 0 0)).setCell ⟨ob, 3, none⟩ (.slice none 0 0)).setCell ⟨ob, 4, none⟩ (.slice none 0 0)) = F at *
        simp [results, Try.results17, go_sem, z0, z1, z2, z3, z4]
      | false =>
        by_cases h1 : 1 < wh
        · have hi : (1 : Int) < (wh : Int) := by omega
          have hi2 : decide ((wh : Int) > 1) = true := decide_eq_true hi
          have hi3 : decide ((1 : Int) < (wh : Int)) = true := decide_eq_true hi
          have Hok : Hid (okPd P d = false) := Lib.hid (by rw [Hokd.out, decide_eq_false (by omega)]; rfl)
          have hobx := Hkw.out.at Hob1.out (by have := Hobn.out; omega) (by have := Hobn.out; omega)
          have HF := Lib.hid (par_fin (Hb1.out.trans ((Hso1.out.blw Hso.out Hkw.out Hobn.out.2.2 HwW.out).mono (Nat.le_refl _))) (by rw [Hob.out]; exact Nat.le_refl _) hobx Hvl.out Hvd.out Hpl2.out HwW.out (.bool false) (.int .i64 0) (.slice none 0 0) (.slice none 0 0) (.slice none 0 0))
          have Hres := Lib.hid (set5 hobx (.bool false) (.int .i64 0) (.slice none 0 0) (.slice none 0 0) (.slice none 0 0))
          have x0 := frozen_blkR hobx 0
          have x1 := frozen_blkR hobx 1
          have x2 := frozen_blkR hobx 2
          have x3 := frozen_blkR hobx 3
          have x4 := frozen_blkR hobx 4
          have y0 : wo.cell? ⟨ob, 0, none⟩ = some (.bool false) := by rw [cell_blkR hobx]; rfl
          have y1 : wo.cell? ⟨ob, 1, none⟩ = some (.int .i64 0) := by rw [cell_blkR hobx]; rfl
          have y2 : wo.cell? ⟨ob, 2, none⟩ = some (.slice none 0 0) := by rw [cell_blkR hobx]; rfl
          have y3 : wo.cell? ⟨ob, 3, none⟩ = some (.slice none 0 0) := by rw [cell_blkR hobx]; rfl
          have y4 : wo.cell? ⟨ob, 4, none⟩ = some (.slice none 0 0) := by rw [cell_blkR hobx]; rfl
          clear hobx
          go_wp2_with fail
          refine bodyPost_ret (v := .tuple #[.agg #[.bool false, .int .i64 0, .slice none 0 0, .slice none 0 0, .slice none 0 0], .int .i64 20]) ?_ rfl ⟨HF.out.1, _, _, _, d, by rw [HPe.out], by rw [HPe.out]; exact HF.out.2.1, by rw [HPe.out]; exact HF.out.2.2.1, HF.out.2.2.2, .inr ⟨Hok.out, rfl⟩⟩
          have hres := Hres.out
          have z0 := cell_blkR hres 0
          have z1 := cell_blkR hres 1
          have z2 := cell_blkR hres 2
          have z3 := cell_blkR hres 3
          have z4 := cell_blkR hres 4
          simp only [List.getElem?_toArray, List.getElem?_cons_zero, List.getElem?_cons_succ] at z0 z1 z2 z3 z4
          generalize (((((wo.setCell ⟨ob, 0, none⟩ (.bool false)).setCell ⟨ob, 1, none⟩ (.int .i64 0)).setCell ⟨ob, 2, none⟩ (.slice none 0 0)).setCell ⟨ob, 3, none⟩ (.slice none 0 0)).setCell ⟨ob, 4, none⟩ (.slice none 0 0)) = F at *
          simp [results, Try.results17, go_sem, z0, z1, z2, z3, z4]
        · have hi : ¬ (1 : Int) < (wh : Int) := by omega
          have hi2 : decide ((wh : Int) > 1) = false := decide_eq_false hi
          have hi3 : decide ((1 : Int) < (wh : Int)) = false := decide_eq_false hi
          have Hokx : Hid (okPd P d = (dc && rk)) := Lib.hid (by rw [Hokd.out, decide_eq_true (by omega)]; rfl)
          cases dc with
          | false =>
            have Hdn' : Hid (Calls Try.prog 46 #[.pointer (some ⟨rb, 0, none⟩)] wo fun e w' => e = .returned (.int .i64 20) ∧ w' = wo) := Hdn
            have Hok : Hid (okPd P d = false) := Lib.hid (by rw [Hokx.out]; rfl)
            clear Hdn
            go_wp2_with fail
            refine Hdn'.out.mono ?_
            rintro e w5 ⟨rfl, rfl⟩
            have hobx := Hkw.out.at Hob1.out (by have := Hobn.out; omega) (by have := Hobn.out; omega)
            have HF := Lib.hid (par_fin (Hb1.out.trans ((Hso1.out.blw Hso.out Hkw.out Hobn.out.2.2 HwW.out).mono (Nat.le_refl _))) (by rw [Hob.out]; exact Nat.le_refl _) hobx Hvl.out Hvd.out Hpl2.out HwW.out (.bool false) (.int .i64 0) (.slice none 0 0) (.slice none 0 0) (.slice none 0 0))
            have Hres := Lib.hid (set5 hobx (.bool false) (.int .i64 0) (.slice none 0 0) (.slice none 0 0) (.slice none 0 0))
            have x0 := frozen_blkR hobx 0
            have x1 := frozen_blkR hobx 1
            have x2 := frozen_blkR hobx 2
            have x3 := frozen_blkR hobx 3
            have x4 := frozen_blkR hobx 4
            have y0 : w5.cell? ⟨ob, 0, none⟩ = some (.bool false) := by rw [cell_blkR hobx]; rfl
            have y1 : w5.cell? ⟨ob, 1, none⟩ = some (.int .i64 0) := by rw [cell_blkR hobx]; rfl
            have y2 : w5.cell? ⟨ob, 2, none⟩ = some (.slice none 0 0) := by rw [cell_blkR hobx]; rfl
            have y3 : w5.cell? ⟨ob, 3, none⟩ = some (.slice none 0 0) := by rw [cell_blkR hobx]; rfl
            have y4 : w5.cell? ⟨ob, 4, none⟩ = some (.slice none 0 0) := by rw [cell_blkR hobx]; rfl
            clear hobx
            go_wp2_with fail
            refine bodyPost_ret (v := .tuple #[.agg #[.bool false, .int .i64 0, .slice none 0 0, .slice none 0 0, .slice none 0 0], .int .i64 20]) ?_ rfl ⟨HF.out.1, _, _, _, d, by rw [HPe.out], by rw [HPe.out]; exact HF.out.2.1, by rw [HPe.out]; exact HF.out.2.2.1, HF.out.2.2.2, .inr ⟨Hok.out, rfl⟩⟩
            have hres := Hres.out
            have z0 := cell_blkR hres 0
            have z1 := cell_blkR hres 1
            have z2 := cell_blkR hres 2
            have z3 := cell_blkR hres 3
            have z4 := cell_blkR hres 4
            simp only [List.getElem?_toArray, List.getElem?_cons_zero, List.getElem?_cons_succ] at z0 z1 z2 z3 z4
            generalize (((((w5.setCell ⟨ob, 0, none⟩ (.bool false)).setCell ⟨ob, 1, none⟩ (.int .i64 0)).setCell ⟨ob, 2, none⟩ (.slice none 0 0)).setCell ⟨ob, 3, none⟩ (.slice none 0 0)).setCell ⟨ob, 4, none⟩ (.slice none 0 0)) = F at *
            simp [results, Try.results17, go_sem, z0, z1, z2, z3, z4]
          | true =>
            have Hdn' : Hid (Calls Try.prog 46 #[.pointer (some ⟨rb, 0, none⟩)] wo fun e w' => e = .returned (.int .i64 0) ∧ w' = wo) := Hdn
            clear Hdn
            cases rk with
            | true =>
              have Hok : Hid (okPd P d = true) := Lib.hid (by rw [Hokx.out]; rfl)
              have Hck' : Hid (Calls Try.prog 14 #[.agg #[.bool wb0, .int .i64 (sq : Nat), .slice la3 ln3 lc3, .slice aa k ac, .slice la4 ln4 lc4]] wo fun e w' => e = .returned (.int .i64 0) ∧ Below wo.heap.size wo w') := Hckr
              clear Hckr
              go_wp2_with fail
              refine Hdn'.out.mono ?_
              rintro e w5 ⟨rfl, rfl⟩
              go_wp2_with fail
              refine Hck'.out.mono ?_
              rintro e w6 ⟨rfl, hb6⟩
              have hrb6 := blk_bels hb6 Hrb.out
              have q0 : w6.cell? ⟨rr, 0, none⟩ = some (.bool wb0) := by rw [cell_blkR hrb6]; rfl
              have q1 : w6.cell? ⟨rr, 1, none⟩ = some (.int .i64 (sq : Nat)) := by rw [cell_blkR hrb6]; rfl
              have q2 : w6.cell? ⟨rr, 2, none⟩ = some (.slice la3 ln3 lc3) := by rw [cell_blkR hrb6]; rfl
              have q3 : w6.cell? ⟨rr, 3, none⟩ = some (.slice aa k ac) := by rw [cell_blkR hrb6]; rfl
              have q4 : w6.cell? ⟨rr, 4, none⟩ = some (.slice la4 ln4 lc4) := by rw [cell_blkR hrb6]; rfl
              have HB6 := Lib.hid ((Hb1.out.trans ((Hso1.out.blw Hso.out Hkw.out Hobn.out.2.2 HwW.out).mono (Nat.le_refl _))).trans (hb6.mono (Hb1.out.trans ((Hso1.out.blw Hso.out Hkw.out Hobn.out.2.2 HwW.out).mono (Nat.le_refl _))).size))
              have HV1 := Lib.hid (own_below Hvl.out hb6)
              have HV2 := Lib.hid (own_below Hvd.out hb6)
              have HV3 : Hid (OwnPl w6 W1.heap.size (.slice aa k ac) d) := Lib.hid ⟨own_below Hpl2.out.1 hb6, fun p hp => own_below (Hpl2.out.2 p hp) hb6⟩
              have HO6 := Lib.hid (blk_bels hb6 (Hkw.out.at Hob1.out (by have := Hobn.out; omega) (by have := Hobn.out; omega)))
              clear hrb6 hb6 r0 r1 r2 r3 r4 c0 c1
              have hobx := HO6.out
              have HF := Lib.hid (par_fin HB6.out (by rw [Hob.out]; exact Nat.le_refl _) hobx HV1.out HV2.out HV3.out HwW.out (.bool wb0) (.int .i64 (sq : Nat)) (.slice la3 ln3 lc3) (.slice aa k ac) (.slice la4 ln4 lc4))
              have Hres := Lib.hid (set5 hobx (.bool wb0) (.int .i64 (sq : Nat)) (.slice la3 ln3 lc3) (.slice aa k ac) (.slice la4 ln4 lc4))
              have x0 := frozen_blkR hobx 0
              have x1 := frozen_blkR hobx 1
              have x2 := frozen_blkR hobx 2
              have x3 := frozen_blkR hobx 3
              have x4 := frozen_blkR hobx 4
              have y0 : w6.cell? ⟨ob, 0, none⟩ = some (.bool false) := by rw [cell_blkR hobx]; rfl
              have y1 : w6.cell? ⟨ob, 1, none⟩ = some (.int .i64 0) := by rw [cell_blkR hobx]; rfl
              have y2 : w6.cell? ⟨ob, 2, none⟩ = some (.slice none 0 0) := by rw [cell_blkR hobx]; rfl
              have y3 : w6.cell? ⟨ob, 3, none⟩ = some (.slice none 0 0) := by rw [cell_blkR hobx]; rfl
              have y4 : w6.cell? ⟨ob, 4, none⟩ = some (.slice none 0 0) := by rw [cell_blkR hobx]; rfl
              clear hobx
              go_wp2_with fail
              refine bodyPost_ret (v := .tuple #[.agg #[.bool wb0, .int .i64 (sq : Nat), .slice la3 ln3 lc3, .slice aa k ac, .slice la4 ln4 lc4], .int .i64 0]) ?_ rfl ⟨HF.out.1, _, _, _, d, by rw [HPe.out], by rw [HPe.out]; exact HF.out.2.1, by rw [HPe.out]; exact HF.out.2.2.1, HF.out.2.2.2, .inl ⟨Hok.out, by rw [HPe.out, ← Hwb0.out]⟩⟩
              have hres := Hres.out
              have z0 := cell_blkR hres 0
              have z1 := cell_blkR hres 1
              have z2 := cell_blkR hres 2
              have z3 := cell_blkR hres 3
              have z4 := cell_blkR hres 4
              simp only [List.getElem?_toArray, List.getElem?_cons_zero, List.getElem?_cons_succ] at z0 z1 z2 z3 z4
              generalize (((((w6.setCell ⟨ob, 0, none⟩ (.bool wb0)).setCell ⟨ob, 1, none⟩ (.int .i64 (sq : Nat))).setCell ⟨ob, 2, none⟩ (.slice la3 ln3 lc3)).setCell ⟨ob, 3, none⟩ (.slice aa k ac)).setCell ⟨ob, 4, none⟩ (.slice la4 ln4 lc4)) = F at *
              simp [results, Try.results17, go_sem, z0, z1, z2, z3, z4]
            | false =>
              have Hok : Hid (okPd P d = false) := Lib.hid (by rw [Hokx.out]; rfl)
              have Hck' : Hid (Calls Try.prog 14 #[.agg #[.bool wb0, .int .i64 (sq : Nat), .slice la3 ln3 lc3, .slice aa k ac, .slice la4 ln4 lc4]] wo fun e w' => e = .returned (.int .i64 20) ∧ Below wo.heap.size wo w') := Hckr
              clear Hckr
              go_wp2_with fail
              refine Hdn'.out.mono ?_
              rintro e w5 ⟨rfl, rfl⟩
              go_wp2_with fail
              refine Hck'.out.mono ?_
              rintro e w6 ⟨rfl, hb6⟩
              have HB6 := Lib.hid ((Hb1.out.trans ((Hso1.out.blw Hso.out Hkw.out Hobn.out.2.2 HwW.out).mono (Nat.le_refl _))).trans (hb6.mono (Hb1.out.trans ((Hso1.out.blw Hso.out Hkw.out Hobn.out.2.2 HwW.out).mono (Nat.le_refl _))).size))
              have HV1 := Lib.hid (own_below Hvl.out hb6)
              have HV2 := Lib.hid (own_below Hvd.out hb6)
              have HV3 : Hid (OwnPl w6 W1.heap.size (.slice aa k ac) d) := Lib.hid ⟨own_below Hpl2.out.1 hb6, fun p hp => own_below (Hpl2.out.2 p hp) hb6⟩
              have HO6 := Lib.hid (blk_bels hb6 (Hkw.out.at Hob1.out (by have := Hobn.out; omega) (by have := Hobn.out; omega)))
              clear hb6 r0 r1 r2 r3 r4 c0 c1
              have hobx := HO6.out
              have HF := Lib.hid (par_fin HB6.out (by rw [Hob.out]; exact Nat.le_refl _) hobx HV1.out HV2.out HV3.out HwW.out (.bool false) (.int .i64 0) (.slice none 0 0) (.slice none 0 0) (.slice none 0 0))
              have Hres := Lib.hid (set5 hobx (.bool false) (.int .i64 0) (.slice none 0 0) (.slice none 0 0) (.slice none 0 0))
              have x0 := frozen_blkR hobx 0
              have x1 := frozen_blkR hobx 1
              have x2 := frozen_blkR hobx 2
              have x3 := frozen_blkR hobx 3
              have x4 := frozen_blkR hobx 4
              have y0 : w6.cell? ⟨ob, 0, none⟩ = some (.bool false) := by rw [cell_blkR hobx]; rfl
              have y1 : w6.cell? ⟨ob, 1, none⟩ = some (.int .i64 0) := by rw [cell_blkR hobx]; rfl
              have y2 : w6.cell? ⟨ob, 2, none⟩ = some (.slice none 0 0) := by rw [cell_blkR hobx]; rfl
              have y3 : w6.cell? ⟨ob, 3, none⟩ = some (.slice none 0 0) := by rw [cell_blkR hobx]; rfl
              have y4 : w6.cell? ⟨ob, 4, none⟩ = some (.slice none 0 0) := by rw [cell_blkR hobx]; rfl
              clear hobx
              go_wp2_with fail
              refine bodyPost_ret (v := .tuple #[.agg #[.bool false, .int .i64 0, .slice none 0 0, .slice none 0 0, .slice none 0 0], .int .i64 20]) ?_ rfl ⟨HF.out.1, _, _, _, d, by rw [HPe.out], by rw [HPe.out]; exact HF.out.2.1, by rw [HPe.out]; exact HF.out.2.2.1, HF.out.2.2.2, .inr ⟨Hok.out, rfl⟩⟩
              have hres := Hres.out
              have z0 := cell_blkR hres 0
              have z1 := cell_blkR hres 1
              have z2 := cell_blkR hres 2
              have z3 := cell_blkR hres 3
              have z4 := cell_blkR hres 4
              simp only [List.getElem?_toArray, List.getElem?_cons_zero, List.getElem?_cons_succ] at z0 z1 z2 z3 z4
              generalize (((((w6.setCell ⟨ob, 0, none⟩ (.bool false)).setCell ⟨ob, 1, none⟩ (.int .i64 0)).setCell ⟨ob, 2, none⟩ (.slice none 0 0)).setCell ⟨ob, 3, none⟩ (.slice none 0 0)).setCell ⟨ob, 4, none⟩ (.slice none 0 0)) = F at *
              simp [results, Try.results17, go_sem, z0, z1, z2, z3, z4]
    have hp1 : Below wo.heap.size wo (wo.alloc (.cells #[.int .i64 0, .int .i64 0, .int .i64 0, .string ⟨#[]⟩, .int .i64 0, .int .i64 0, .string ⟨#[]⟩, .int .i64 0, .int .i64 0, .slice none 0 0] 80)) := (Below.refl _ _).alloc (Nat.le_refl _) _
    have HP0 := Lib.hid (blk_of_alloc wo (.cells #[.int .i64 0, .int .i64 0, .int .i64 0, .string ⟨#[]⟩, .int .i64 0, .int .i64 0, .string ⟨#[]⟩, .int .i64 0, .int .i64 0, .slice none 0 0] 80))
    have Hps := Lib.hid (Hso.out.bel hp1)
    have Hpk : Hid (KpS wo _ xb rb) := Lib.hid (KpS.of_bel hp1)
    obtain ⟨pb, hpb⟩ : ∃ q, q = wo.heap.size := ⟨_, rfl⟩
    have Hpn : Hid (wo.heap.size ≤ pb ∧ pb ≠ xb ∧ pb ≠ rb) := Lib.hid (by have := Hso.out.rlt; omega)
    have Hpb := Lib.hid hpb
    have Hwo : Hid (w0.heap.size ≤ wo.heap.size) := Lib.hid Hso.out.rd.below.size
    rw [← hpb] at HP0
    clear hp1 hpb
    go_upto_region 11 with fail
    rw [← Hpb.out]
    generalize wo.alloc (.cells #[.int .i64 0, .int .i64 0, .int .i64 0, .string ⟨#[]⟩, .int .i64 0, .int .i64 0, .string ⟨#[]⟩, .int .i64 0, .int .i64 0, .slice none 0 0] 80) = Wp at *
    have c0 := so_c0 Hps.out
    obtain ⟨⟨lv, s6⟩, hx6⟩ : ∃ p, p = numS st := ⟨_, rfl⟩
    have Hx6 := Lib.hid hx6
    have Hn := Lib.hid (number_so Hps.out)
    rw [← hx6] at Hn
    dsimp only at Hn
    clear hx6
    go_wp2_with fail
    refine Hn.out.mono ?_
    rintro e wq6 ⟨rfl, hq6, hg6⟩
    clear c0 Hn
    have hb6 := hg6.at HP0.out Hpn.out.2.1 Hpn.out.2.2
    have tf0x6 := frozen_blkR hb6 0
    have tc0x6 : wq6.cell? ⟨pb, 0, none⟩ = some (.int .i64 0) := by rw [cell_blkR hb6]; rfl
    have hB6 : (wq6.setCell ⟨pb, 0, none⟩ (.int .i64 (lv : Nat))).heap[pb]? = some (.cells #[.int .i64 (lv : Nat), .int .i64 0, .int .i64 0, .string ⟨#[]⟩, .int .i64 0, .int .i64 0, .string ⟨#[]⟩, .int .i64 0, .int .i64 0, .slice none 0 0] 80 (0, 0)) := by
      rw [blk_setCellR hb6]; rfl
    obtain ⟨hs6, hk6⟩ := so_set hq6 (Hpk.out.trans hg6) Hwo.out Hpn.out.1 Hpn.out.2.1 Hpn.out.2.2 0 (.int .i64 (lv : Nat))
    have HB6 := Lib.hid hB6
    have Hs6 := Lib.hid hs6
    have Hk6 := Lib.hid hk6
    clear hb6 hB6 hs6 hk6
    clear hq6 hg6
    go_upto_region 12 with fail
    generalize wq6.setCell ⟨pb, 0, none⟩ (.int .i64 (lv : Nat)) = W6 at *
    clear tf0x6 tc0x6
    have c0 := so_c0 Hs6.out
    obtain ⟨⟨mz, s7⟩, hx7⟩ : ∃ p, p = numS s6 := ⟨_, rfl⟩
    have Hx7 := Lib.hid hx7
    have Hn := Lib.hid (number_so Hs6.out)
    rw [← hx7] at Hn
    dsimp only at Hn
    clear hx7
    go_wp2_with fail
    refine Hn.out.mono ?_
    rintro e wq7 ⟨rfl, hq7, hg7⟩
    clear c0 Hn
    have hb7 := hg7.at HB6.out Hpn.out.2.1 Hpn.out.2.2
    have tf0x7 := frozen_blkR hb7 1
    have tc0x7 : wq7.cell? ⟨pb, 1, none⟩ = some (.int .i64 0) := by rw [cell_blkR hb7]; rfl
    have hB7 : (wq7.setCell ⟨pb, 1, none⟩ (.int .i64 (mz : Nat))).heap[pb]? = some (.cells #[.int .i64 (lv : Nat), .int .i64 (mz : Nat), .int .i64 0, .string ⟨#[]⟩, .int .i64 0, .int .i64 0, .string ⟨#[]⟩, .int .i64 0, .int .i64 0, .slice none 0 0] 80 (0, 0)) := by
      rw [blk_setCellR hb7]; rfl
    obtain ⟨hs7, hk7⟩ := so_set hq7 (Hk6.out.trans hg7) Hwo.out Hpn.out.1 Hpn.out.2.1 Hpn.out.2.2 1 (.int .i64 (mz : Nat))
    have HB7 := Lib.hid hB7
    have Hs7 := Lib.hid hs7
    have Hk7 := Lib.hid hk7
    clear hb7 hB7 hs7 hk7
    clear hq7 hg7
    go_upto_region 13 with fail
    generalize wq7.setCell ⟨pb, 1, none⟩ (.int .i64 (mz : Nat)) = W7 at *
    clear tf0x7 tc0x7
    have c0 := so_c0 Hs7.out
    obtain ⟨⟨mn, s8⟩, hx8⟩ : ∃ p, p = numS s7 := ⟨_, rfl⟩
    have Hx8 := Lib.hid hx8
    have Hn := Lib.hid (number_so Hs7.out)
    rw [← hx8] at Hn
    dsimp only at Hn
    clear hx8
    go_wp2_with fail
    refine Hn.out.mono ?_
    rintro e wq8 ⟨rfl, hq8, hg8⟩
    clear c0 Hn
    have hb8 := hg8.at HB7.out Hpn.out.2.1 Hpn.out.2.2
    have tf0x8 := frozen_blkR hb8 2
    have tc0x8 : wq8.cell? ⟨pb, 2, none⟩ = some (.int .i64 0) := by rw [cell_blkR hb8]; rfl
    have hB8 : (wq8.setCell ⟨pb, 2, none⟩ (.int .i64 (mn : Nat))).heap[pb]? = some (.cells #[.int .i64 (lv : Nat), .int .i64 (mz : Nat), .int .i64 (mn : Nat), .string ⟨#[]⟩, .int .i64 0, .int .i64 0, .string ⟨#[]⟩, .int .i64 0, .int .i64 0, .slice none 0 0] 80 (0, 0)) := by
      rw [blk_setCellR hb8]; rfl
    obtain ⟨hs8, hk8⟩ := so_set hq8 (Hk7.out.trans hg8) Hwo.out Hpn.out.1 Hpn.out.2.1 Hpn.out.2.2 2 (.int .i64 (mn : Nat))
    have HB8 := Lib.hid hB8
    have Hs8 := Lib.hid hs8
    have Hk8 := Lib.hid hk8
    clear hb8 hB8 hs8 hk8
    clear hq8 hg8
    go_upto_region 14 with fail
    generalize wq8.setCell ⟨pb, 2, none⟩ (.int .i64 (mn : Nat)) = W8 at *
    clear tf0x8 tc0x8
    obtain ⟨⟨ka, s9⟩, hx9⟩ : ∃ p, p = keyS s8 := ⟨_, rfl⟩
    have Hx9 := Lib.hid hx9
    have hn := skey_any w0 _ xb rb _ Hs8.out
    rw [← hx9] at hn
    dsimp only at hn
    unfold Ky.v at hn
    have Hn := Lib.hid hn
    clear hx9 hn
    go_wp2_with fail
    refine Hn.out.mono ?_
    rintro e wq9 ⟨rfl, hq9, hg9⟩
    clear Hn
    have hb9 := hg9.at HB8.out Hpn.out.2.1 Hpn.out.2.2
    have tf0x9 := frozen_blkR hb9 3
    have tc0x9 : wq9.cell? ⟨pb, 3, none⟩ = some (.string ⟨#[]⟩) := by rw [cell_blkR hb9]; rfl
    have tf1x9 := frozen_blkR hb9 4
    have tc1x9 : wq9.cell? ⟨pb, 4, none⟩ = some (.int .i64 0) := by rw [cell_blkR hb9]; rfl
    have tf2x9 := frozen_blkR hb9 5
    have tc2x9 : wq9.cell? ⟨pb, 5, none⟩ = some (.int .i64 0) := by rw [cell_blkR hb9]; rfl
    have hB9 : (((wq9.setCell ⟨pb, 3, none⟩ (.string ka.u)).setCell ⟨pb, 4, none⟩ (.int .i64 ka.s)).setCell ⟨pb, 5, none⟩ (.int .i64 ka.k)).heap[pb]? = some (.cells #[.int .i64 (lv : Nat), .int .i64 (mz : Nat), .int .i64 (mn : Nat), .string ka.u, .int .i64 ka.s, .int .i64 ka.k, .string ⟨#[]⟩, .int .i64 0, .int .i64 0, .slice none 0 0] 80 (0, 0)) := by
      rw [blk_setCellR (blk_setCellR (blk_setCellR hb9))]; rfl
    obtain ⟨hs9, hk9⟩ := so_key hq9 (Hk8.out.trans hg9) Hwo.out Hpn.out.1 Hpn.out.2.1 Hpn.out.2.2 3 4 5 (.string ka.u) (.int .i64 ka.s) (.int .i64 ka.k)
    have HB9 := Lib.hid hB9
    have Hs9 := Lib.hid hs9
    have Hk9 := Lib.hid hk9
    clear hb9 hB9 hs9 hk9
    clear hq9 hg9
    go_upto_region 15 with fail
    generalize ((wq9.setCell ⟨pb, 3, none⟩ (.string ka.u)).setCell ⟨pb, 4, none⟩ (.int .i64 ka.s)).setCell ⟨pb, 5, none⟩ (.int .i64 ka.k) = W9 at *
    clear tf0x9 tc0x9 tf1x9 tc1x9 tf2x9 tc2x9
    obtain ⟨⟨kb, s10⟩, hx10⟩ : ∃ p, p = keyS s9 := ⟨_, rfl⟩
    have Hx10 := Lib.hid hx10
    have hn := skey_any w0 _ xb rb _ Hs9.out
    rw [← hx10] at hn
    dsimp only at hn
    unfold Ky.v at hn
    have Hn := Lib.hid hn
    clear hx10 hn
    go_wp2_with fail
    refine Hn.out.mono ?_
    rintro e wq10 ⟨rfl, hq10, hg10⟩
    clear Hn
    have hb10 := hg10.at HB9.out Hpn.out.2.1 Hpn.out.2.2
    have tf0x10 := frozen_blkR hb10 6
    have tc0x10 : wq10.cell? ⟨pb, 6, none⟩ = some (.string ⟨#[]⟩) := by rw [cell_blkR hb10]; rfl
    have tf1x10 := frozen_blkR hb10 7
    have tc1x10 : wq10.cell? ⟨pb, 7, none⟩ = some (.int .i64 0) := by rw [cell_blkR hb10]; rfl
    have tf2x10 := frozen_blkR hb10 8
    have tc2x10 : wq10.cell? ⟨pb, 8, none⟩ = some (.int .i64 0) := by rw [cell_blkR hb10]; rfl
    have hB10 : (((wq10.setCell ⟨pb, 6, none⟩ (.string kb.u)).setCell ⟨pb, 7, none⟩ (.int .i64 kb.s)).setCell ⟨pb, 8, none⟩ (.int .i64 kb.k)).heap[pb]? = some (.cells #[.int .i64 (lv : Nat), .int .i64 (mz : Nat), .int .i64 (mn : Nat), .string ka.u, .int .i64 ka.s, .int .i64 ka.k, .string kb.u, .int .i64 kb.s, .int .i64 kb.k, .slice none 0 0] 80 (0, 0)) := by
      rw [blk_setCellR (blk_setCellR (blk_setCellR hb10))]; rfl
    obtain ⟨hs10, hk10⟩ := so_key hq10 (Hk9.out.trans hg10) Hwo.out Hpn.out.1 Hpn.out.2.1 Hpn.out.2.2 6 7 8 (.string kb.u) (.int .i64 kb.s) (.int .i64 kb.k)
    have HB10 := Lib.hid hB10
    have Hs10 := Lib.hid hs10
    have Hk10 := Lib.hid hk10
    clear hb10 hB10 hs10 hk10
    clear hq10 hg10
    go_upto_region 16 with fail
    generalize ((wq10.setCell ⟨pb, 6, none⟩ (.string kb.u)).setCell ⟨pb, 7, none⟩ (.int .i64 kb.s)).setCell ⟨pb, 8, none⟩ (.int .i64 kb.k) = W10 at *
    clear tf0x10 tc0x10 tf1x10 tc1x10 tf2x10 tc2x10
    have hle11 := cntS_le s10
    obtain ⟨⟨m2, s11⟩, hx11⟩ : ∃ p, p = cntS s10 := ⟨_, rfl⟩
    have Hx11 := Lib.hid hx11
    have hn := count_any w0 _ xb rb _ Hs10.out
    rw [← hx11] at hn hle11
    dsimp only at hn hle11
    have Hn := Lib.hid hn
    clear hx11 hn
    go_wp2_with fail
    refine Hn.out.mono ?_
    rintro e wq11 ⟨rfl, hq11, hg11⟩
    clear Hn
    have HB11 := Lib.hid (hg11.at HB10.out Hpn.out.2.1 Hpn.out.2.2)
    have Hs11 := Lib.hid hq11
    have Hk11 := Lib.hid (Hk10.out.trans hg11)
    clear hq11 hg11
    go_wp2_with fail
    obtain ⟨RF, hRF⟩ : ∃ q, q = rfN m2 s11 := ⟨_, rfl⟩
    have HRF := Lib.hid hRF
    clear hRF
    go_loopw [68] (fun iv wr => ∃ (j : Nat) (d2 : List (Int × Int)) (st : So) (rv : Value), j ≤ m2 ∧ iv = .int .i64 j ∧ d2.length = j ∧ RF = (d2 ++ (rfN (m2 - j) st).1, (rfN (m2 - j) st).2) ∧ IsSo w0 wr xb rb st ∧ KpS wo wr xb rb ∧ wr.heap[pb]? = some (.cells #[.int .i64 (lv : Nat), .int .i64 (mz : Nat), .int .i64 (mn : Nat), .string ka.u, .int .i64 ka.s, .int .i64 ka.k, .string kb.u, .int .i64 kb.s, .int .i64 kb.k, rv] 80 (0, 0)) ∧ OwnRr wr wo.heap.size rv d2) (fun i _ => m2 - (intOf i).toNat)
    case atStart => exact ⟨0, [], s11, .slice none 0 0, Nat.zero_le _, rfl, rfl, by rw [HRF.out]; rfl, Hs11.out, Hk11.out, HB11.out, World.ownsRow_nil _ _ _ _⟩
    case round =>
      obtain ⟨wi, rfl⟩ : ∃ wi : World, wi = wr := ⟨_, rfl⟩
      obtain ⟨j, d2, st2, rv, hj, rfl, hd2, hrf, hs, hkw, hpb, hor⟩ := hrel
      have Hrf := Lib.hid hrf
      have Hsi := Lib.hid hs
      have Hki := Lib.hid hkw
      have Hpi := Lib.hid hpb
      have Hor := Lib.hid hor
      obtain ⟨ra, rcp, rfl⟩ := own_slice hor
      rw [hd2] at Hpi
      have Hd2 := Lib.hid hd2.symm
      clear hrf hs hkw hpb hor hd2
      by_cases hjm : j < m2
      rotate_left
      · obtain rfl : j = m2 := by omega
        have Hf : Hid (RF = (d2, st2)) := Lib.hid (by rw [Hrf.out, Nat.sub_self]; show (d2 ++ [], st2) = _; rw [List.append_nil])
        have hkt := Hkw.out.trans Hki.out
        have hr := Hki.out.at Hrb.out Hne.out.2.1 Hne.out.2.2
        have hv1 : OwnZ wi W1.heap.size (.slice la3 ln3 lc3) lg := Hso.out.own Hvl.out Hki.out (by decide) (by decide)
        have hv2 : OwnZ wi W1.heap.size (.slice la4 ln4 lc4) dr := Hso.out.own Hvd.out Hki.out (by decide) (by decide)
        have hpl := Hso.out.own Hpl.out.1 Hki.out (by decide) (by decide)
        obtain ⟨a', n', c', w2, hrun, ho2, hg2⟩ := push_pl wi W1.heap.size _ d ((lv : Int), ((⟨(mz : Int), (mn : Int), ka, kb, d2⟩ : Mt), Value.slice ra j rcp)) ⟨_, _, _, rfl⟩ hpl (by have := Hd.out; omega) hkt.1
        rw [← Hd.out] at hrun
        dsimp only at hrun hg2
        have hal : Below wi.heap.size wi (wi.alloc (.cells #[.int .i64 (lv : Nat), .int .i64 (mz : Nat), .int .i64 (mn : Nat), .string ka.u, .int .i64 ka.s, .int .i64 ka.k, .string kb.u, .int .i64 kb.s, .int .i64 kb.k, .slice ra j rcp] 80)) := (Below.refl _ _).alloc (Nat.le_refl _) _
        obtain ⟨hs14, hk14, -⟩ := Hsi.out.grow hkt (Nat.le_refl _) Hw0.out hkt.1 hpl hal hg2 (by decide) (by decide)
        have hr2 := grow_at hpl hal hg2 hr (by decide)
        have hv3 : OwnZ w2 W1.heap.size (.slice la3 ln3 lc3) lg := grow_row hpl hal hg2 hv1 (by decide)
        have hv4 : OwnZ w2 W1.heap.size (.slice la4 ln4 lc4) dr := grow_row hpl hal hg2 hv2 (by decide)
        have hrx : ∀ p ∈ d ++ [((lv : Int), ((⟨(mz : Int), (mn : Int), ka, kb, d2⟩ : Mt), Value.slice ra j rcp))], OwnRr w2 W1.heap.size p.2.2 p.2.1.refs := fun p hp => by
          rcases List.mem_append.1 hp with hp | hp
          · exact grow_row hpl hal hg2 (Hso.out.own (Hpl.out.2 p hp) Hki.out (by decide) (by decide)) (by decide)
          · obtain rfl := List.mem_singleton.1 hp
            have h5 : OwnRr wi wo.heap.size (.slice ra j rcp) d2 := by have h6 := Hor.out; rw [← Hd2.out] at h6; exact h6
            exact grow_row hpl hal hg2 (own_mono h5 Hkw.out.1) (by decide)
        have tf := frozen_blkR hr2 3
        have tc : w2.cell? ⟨rr, 3, none⟩ = some (.slice aa k ac) := by rw [cell_blkR hr2]; rfl
        have hB : (w2.setCell ⟨rr, 3, none⟩ (.slice a' n' c')).heap[rr]? = some (.cells #[.bool wb0, .int .i64 (sq : Nat), .slice la3 ln3 lc3, (.slice a' n' c'), .slice la4 ln4 lc4] 27 (0, 0)) := by
          rw [blk_setCellR hr2]; rfl
        obtain ⟨hs15, hk15⟩ := so_set hs14 hk14 Hw0.out Hne.out.1 Hne.out.2.1 Hne.out.2.2 3 (.slice a' n' c')
        have ho15 : OwnPl (w2.setCell ⟨rr, 3, none⟩ (.slice a' n' c')) W1.heap.size (.slice a' n' c') (d ++ [((lv : Int), ((⟨(mz : Int), (mn : Int), ka, kb, d2⟩ : Mt), Value.slice ra j rcp))]) := ⟨own_struct ho2 hr2 (by decide) 3 _, fun p hp => own_struct (hrx p hp) hr2 (by decide) 3 _⟩
        have hv5 : OwnZ (w2.setCell ⟨rr, 3, none⟩ (.slice a' n' c')) W1.heap.size (.slice la3 ln3 lc3) lg := own_struct hv3 hr2 (by decide) 3 _
        have hv6 : OwnZ (w2.setCell ⟨rr, 3, none⟩ (.slice a' n' c')) W1.heap.size (.slice la4 ln4 lc4) dr := own_struct hv4 hr2 (by decide) 3 _
        have r3 : wi.cell? ⟨rr, 3, none⟩ = some (.slice aa k ac) := by rw [cell_blkR hr]; rfl
        have p0 : wi.cell? ⟨pb, 0, none⟩ = some (.int .i64 (lv : Nat)) := by rw [cell_blkR Hpi.out]; rfl
        have p1 : wi.cell? ⟨pb, 1, none⟩ = some (.int .i64 (mz : Nat)) := by rw [cell_blkR Hpi.out]; rfl
        have p2 : wi.cell? ⟨pb, 2, none⟩ = some (.int .i64 (mn : Nat)) := by rw [cell_blkR Hpi.out]; rfl
        have p3 : wi.cell? ⟨pb, 3, none⟩ = some (.string ka.u) := by rw [cell_blkR Hpi.out]; rfl
        have p4 : wi.cell? ⟨pb, 4, none⟩ = some (.int .i64 ka.s) := by rw [cell_blkR Hpi.out]; rfl
        have p5 : wi.cell? ⟨pb, 5, none⟩ = some (.int .i64 ka.k) := by rw [cell_blkR Hpi.out]; rfl
        have p6 : wi.cell? ⟨pb, 6, none⟩ = some (.string kb.u) := by rw [cell_blkR Hpi.out]; rfl
        have p7 : wi.cell? ⟨pb, 7, none⟩ = some (.int .i64 kb.s) := by rw [cell_blkR Hpi.out]; rfl
        have p8 : wi.cell? ⟨pb, 8, none⟩ = some (.int .i64 kb.k) := by rw [cell_blkR Hpi.out]; rfl
        have p9 : wi.cell? ⟨pb, 9, none⟩ = some (.slice ra j rcp) := by rw [cell_blkR Hpi.out]; rfl
        have hpe : plS st = (((lv : Int), (⟨(mz : Int), (mn : Int), ka, kb, d2⟩ : Mt)), st2) := by
          have e1 : phS st = (⟨lv, mz, mn, ka, kb⟩, s10) := by simp only [phS, Hx6.out.symm, Hx7.out.symm, Hx8.out.symm, Hx9.out.symm, Hx10.out.symm]
          unfold plS rfS
          rw [e1]
          dsimp only
          rw [← Hx11.out]
          dsimp only
          rw [← HRF.out, Hf.out]
          rfl
        have Had2 : Hid (AD = (psM (d ++ [((lv : Int), ((⟨(mz : Int), (mn : Int), ka, kb, d2⟩ : Mt), Value.slice ra j rcp))]) ++ (adN (m - (k + 1)) st2).1, (adN (m - (k + 1)) st2).2)) := Lib.hid (by
          have h3 := Had.out
          rw [show m - k = (m - (k + 1)) + 1 by omega] at h3
          have e : adN ((m - (k + 1)) + 1) st = ((((lv : Int), (⟨(mz : Int), (mn : Int), ka, kb, d2⟩ : Mt)) :: (adN (m - (k + 1)) st2).1), (adN (m - (k + 1)) st2).2) := by
            rw [adN, hpe]
          rw [h3, e]
          unfold psM
          rw [List.map_append, List.append_assoc]; rfl)
        have Hrl2 : Hid (∀ p ∈ d ++ [((lv : Int), ((⟨(mz : Int), (mn : Int), ka, kb, d2⟩ : Mt), Value.slice ra j rcp))], p.2.1.refs.length ≤ 64) := Lib.hid (fun p hp => by
          rcases List.mem_append.1 hp with hp | hp
          · exact Hrl.out p hp
          · obtain rfl := List.mem_singleton.1 hp
            show d2.length ≤ 64
            rw [← Hd2.out]; assumption)
        have HB := Lib.hid hB
        have Hs15 := Lib.hid hs15
        have Hk15 := Lib.hid hk15
        have Ho15 := Lib.hid ho15
        have Hv5 := Lib.hid hv5
        have Hv6 := Lib.hid hv6
        clear hkt hr hv1 hv2 hpl ho2 hg2 hal hs14 hk14 hr2 hv3 hv4 hrx hB hs15 hk15 ho15 hv5 hv6 hpe
        go_wp2_with (at_builtin; first | (refine wpList_val rfl _ _ (run_append_op (.tmp 93) (.tmp 95) 23 23 rfl rfl rfl hrun) ?_) | (refine wpList_val rfl _ _ (run_append_op (.tmp 93) (.tmp 95) 23 23 rfl (by simp) (by simp) hrun) ?_))
        go_roundw
        case rel => exact ⟨k + 1, d ++ [((lv : Int), ((⟨(mz : Int), (mn : Int), ka, kb, d2⟩ : Mt), Value.slice ra j rcp))], st2, .slice a' n' c', by omega, by go_num, by rw [List.length_append, ← Hd.out, List.length_singleton], Had2.out, Hs15.out, Hk15.out, HB.out, Hv5.out, Hv6.out, Ho15.out, Hrl2.out⟩
        case measure => simp [intOf]; omega
      have hp1 : Below wi.heap.size wi (wi.alloc (.cells #[.int .i64 0, .int .i64 0] 87)) := (Below.refl _ _).alloc (Nat.le_refl _) _
      have HX0 := Lib.hid (blk_of_alloc wi (.cells #[.int .i64 0, .int .i64 0] 87))
      have Hxs := Lib.hid (Hsi.out.bel hp1)
      have Hxk : Hid (KpS wi _ xb rb) := Lib.hid (KpS.of_bel hp1)
      obtain ⟨yb, hyb⟩ : ∃ q, q = wi.heap.size := ⟨_, rfl⟩
      have Hxn : Hid (wi.heap.size ≤ yb ∧ yb ≠ xb ∧ yb ≠ rb) := Lib.hid (by have := Hsi.out.rlt; omega)
      have Hyb := Lib.hid hyb
      have Hwi : Hid (w0.heap.size ≤ wi.heap.size) := Lib.hid Hsi.out.rd.below.size
      rw [← hyb] at HX0
      clear hp1 hyb
      go_upto_region 19 with fail
      rw [← Hyb.out]
      generalize wi.alloc (.cells #[.int .i64 0, .int .i64 0] 87) = Wy at *
      have c0 := so_c0 Hxs.out
      obtain ⟨⟨rx, s12⟩, hx12⟩ : ∃ p, p = numS st2 := ⟨_, rfl⟩
      have Hx12 := Lib.hid hx12
      have Hn := Lib.hid (number_so Hxs.out)
      rw [← hx12] at Hn
      dsimp only at Hn
      clear hx12
      go_wp2_with fail
      refine Hn.out.mono ?_
      rintro e wq12 ⟨rfl, hq12, hg12⟩
      clear c0 Hn
      have hb12 := hg12.at HX0.out Hxn.out.2.1 Hxn.out.2.2
      have tf0x12 := frozen_blkR hb12 0
      have tc0x12 : wq12.cell? ⟨yb, 0, none⟩ = some (.int .i64 0) := by rw [cell_blkR hb12]; rfl
      have hB12 : (wq12.setCell ⟨yb, 0, none⟩ (.int .i64 (rx : Nat))).heap[yb]? = some (.cells #[.int .i64 (rx : Nat), .int .i64 0] 87 (0, 0)) := by
        rw [blk_setCellR hb12]; rfl
      obtain ⟨hs12, hk12⟩ := so_set hq12 (Hxk.out.trans hg12) Hwi.out Hxn.out.1 Hxn.out.2.1 Hxn.out.2.2 0 (.int .i64 (rx : Nat))
      have HB12 := Lib.hid hB12
      have Hs12 := Lib.hid hs12
      have Hk12 := Lib.hid hk12
      clear hb12 hB12 hs12 hk12
      clear hq12 hg12
      go_upto_region 20 with fail
      generalize wq12.setCell ⟨yb, 0, none⟩ (.int .i64 (rx : Nat)) = W12 at *
      clear tf0x12 tc0x12
      have c0 := so_c0 Hs12.out
      obtain ⟨⟨ry, s13⟩, hx13⟩ : ∃ p, p = numS s12 := ⟨_, rfl⟩
      have Hx13 := Lib.hid hx13
      have Hn := Lib.hid (number_so Hs12.out)
      rw [← hx13] at Hn
      dsimp only at Hn
      clear hx13
      go_wp2_with fail
      refine Hn.out.mono ?_
      rintro e wq13 ⟨rfl, hq13, hg13⟩
      clear c0 Hn
      have hb13 := hg13.at HB12.out Hxn.out.2.1 Hxn.out.2.2
      have tf0x13 := frozen_blkR hb13 1
      have tc0x13 : wq13.cell? ⟨yb, 1, none⟩ = some (.int .i64 0) := by rw [cell_blkR hb13]; rfl
      have hB13 : (wq13.setCell ⟨yb, 1, none⟩ (.int .i64 (ry : Nat))).heap[yb]? = some (.cells #[.int .i64 (rx : Nat), .int .i64 (ry : Nat)] 87 (0, 0)) := by
        rw [blk_setCellR hb13]; rfl
      obtain ⟨hs13, hk13⟩ := so_set hq13 (Hk12.out.trans hg13) Hwi.out Hxn.out.1 Hxn.out.2.1 Hxn.out.2.2 1 (.int .i64 (ry : Nat))
      have HB13 := Lib.hid hB13
      have Hs13 := Lib.hid hs13
      have Hk13 := Lib.hid hk13
      clear hb13 hB13 hs13 hk13
      clear hq13 hg13
      go_upto_region 21 with fail
      generalize wq13.setCell ⟨yb, 1, none⟩ (.int .i64 (ry : Nat)) = W13 at *
      clear tf0x13 tc0x13
      have hkt := Hki.out.trans Hk13.out
      have hp13 := Hk13.out.at Hpi.out Hpn.out.2.1 Hpn.out.2.2
      have ho13 : OwnRr W13 wo.heap.size _ d2 := Hsi.out.own Hor.out Hk13.out (by decide) (by decide)
      obtain ⟨a', n', c', w2, hrun, ho2, hg2⟩ := push_rf W13 wo.heap.size _ d2 ((rx : Int), (ry : Int)) ho13 (by have := Hd2.out; omega) hkt.1
      rw [← Hd2.out] at hrun
      dsimp only at hrun hg2
      have hal : Below W13.heap.size W13 (W13.alloc (.cells #[.int .i64 (rx : Nat), .int .i64 (ry : Nat)] 87)) := (Below.refl _ _).alloc (Nat.le_refl _) _
      obtain ⟨hs14, hk14, -⟩ := Hs13.out.grow hkt (Nat.le_refl _) Hwo.out hkt.1 ho13 hal hg2 (by decide) (by decide)
      have hp14 := grow_at ho13 hal hg2 hp13 (by decide)
      have tf := frozen_blkR hp14 9
      have tc : w2.cell? ⟨pb, 9, none⟩ = some (.slice ra j rcp) := by rw [cell_blkR hp14]; rfl
      have hB : (w2.setCell ⟨pb, 9, none⟩ (.slice a' n' c')).heap[pb]? = some (.cells #[.int .i64 (lv : Nat), .int .i64 (mz : Nat), .int .i64 (mn : Nat), .string ka.u, .int .i64 ka.s, .int .i64 ka.k, .string kb.u, .int .i64 kb.s, .int .i64 kb.k, (.slice a' n' c')] 80 (0, 0)) := by
        rw [blk_setCellR hp14]; rfl
      obtain ⟨hs15, hk15⟩ := so_set hs14 hk14 Hwo.out Hpn.out.1 Hpn.out.2.1 Hpn.out.2.2 9 (.slice a' n' c')
      have ho15 := own_struct ho2 hp14 (by decide) 9 (.slice a' n' c')
      have p9 : W13.cell? ⟨pb, 9, none⟩ = some (.slice ra j rcp) := by rw [cell_blkR hp13]; rfl
      have y0 : W13.cell? ⟨yb, 0, none⟩ = some (.int .i64 (rx : Nat)) := by rw [cell_blkR HB13.out]; rfl
      have y1 : W13.cell? ⟨yb, 1, none⟩ = some (.int .i64 (ry : Nat)) := by rw [cell_blkR HB13.out]; rfl
      have Hrf2 : Hid (RF = ((d2 ++ [((rx : Int), (ry : Int))]) ++ (rfN (m2 - (j + 1)) s13).1, (rfN (m2 - (j + 1)) s13).2)) := Lib.hid (by
        have h3 := Hrf.out
        rw [show m2 - j = (m2 - (j + 1)) + 1 by omega] at h3
        have e : rfN ((m2 - (j + 1)) + 1) st2 = (((rx : Int), (ry : Int)) :: (rfN (m2 - (j + 1)) s13).1, (rfN (m2 - (j + 1)) s13).2) := by
          rw [rfN, ← Hx12.out]; dsimp only; rw [← Hx13.out]
        rw [h3, e, List.append_assoc]; rfl)
      have HB := Lib.hid hB
      have Hs15 := Lib.hid hs15
      have Hk15 := Lib.hid hk15
      have Ho15 := Lib.hid ho15
      clear hkt hp13 ho13 ho2 hg2 hal hs14 hk14 hp14 hB hs15 hk15 ho15
      go_wp2_with (at_builtin; first | (refine wpList_val rfl _ _ (run_append_op (.tmp 84) (.tmp 86) 76 76 rfl rfl rfl hrun) ?_) | (refine wpList_val rfl _ _ (run_append_op (.tmp 84) (.tmp 86) 76 76 rfl (by simp) (by simp) hrun) ?_))
      go_roundw
      case rel => exact ⟨j + 1, d2 ++ [((rx : Int), (ry : Int))], s13, .slice a' n' c', by omega, by go_num, by rw [List.length_append, ← Hd2.out, List.length_singleton], Hrf2.out, Hs15.out, Hk15.out, HB.out, Ho15.out⟩
      case measure => simp [intOf]; omega
end Go.Proofs.Ythjjelomlgmllaa.Tithe
