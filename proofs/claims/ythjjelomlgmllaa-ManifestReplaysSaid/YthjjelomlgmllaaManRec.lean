/- A record's bytes: walked (printed by mkmanrec.py). -/
import Derived.Test.YthjjelomlgmllaaManRecP
import Derived.Deep.RegionHeld3
namespace Go.Proofs.Ythjjelomlgmllaa.Tithe
open Go.RowKit Go.Sort Go.Shelf
set_option linter.unusedVariables false
set_option linter.unusedSimpArgs false
set_option maxRecDepth 100000
theorem IsWr.bel {w w' : World} {base wb : Nat} {bs : List Nat} (h : IsWr w base wb bs) (hb : Below w.heap.size w w') : IsWr w' base wb bs := by
  obtain ⟨v, hblk, hown⟩ := h.ex
  exact ⟨⟨v, blk_bels hb hblk, own_below hown hb⟩, h.lt, Nat.le_trans h.le hb.size⟩
/-- what Bytes of a record gives -/
def RecB (w : World) (r : Rc) (e : Ending) (w' : World) : Prop := (recOk r = false ∧ e = .returned (.tuple #[.slice none 0 0, .int .i64 20]) ∨ recOk r = true ∧ ∃ v', e = .returned (.tuple #[v', .int .i64 0]) ∧ OwnBs w' w.heap.size v' (encR r)) ∧ Below w.heap.size w w'
attribute [local go_sem] Oper.semAt_some
set_option maxHeartbeats 6400000 in
theorem recbytes_any (wh : Bool) (s : Int) (vl va vd : Value) (ls : List Int) (ad : List (Int × Mr)) (dr : List Int) (w : World) (hl : IsZs w vl ls) (hd : IsZs w vd dr) (ha : IsPl w va ad) (hal : ad.length ≤ 100000) (hrl : ∀ p ∈ ad, p.2.1.refs.length ≤ 1000000) :
    Calls Try.prog 12 #[.agg #[.bool wh, .int .i64 s, vl, va, vd]] w fun e w' => RecB w ⟨wh, s, ls, ad, dr⟩ e w' := by
  have hck := fun (X : World) (hX : Below w.heap.size w X) => rcheck_any wh s vl va vd ls ad dr X (hl.below hX) (hd.below hX) ⟨ha.1.below hX, fun p hp => (ha.2 p hp).below hX⟩ hal hrl
  obtain ⟨la, lc, rfl, -, -, -⟩ := id hl
  obtain ⟨da, dc, rfl, -, -, -⟩ := id hd
  obtain ⟨aa, ac, rfl, -, -, -⟩ := id ha.1
  obtain ⟨nl, hnl⟩ : ∃ q, q = ls.length := ⟨_, rfl⟩
  obtain ⟨nd, hnd⟩ : ∃ q, q = dr.length := ⟨_, rfl⟩
  obtain ⟨na, hna⟩ : ∃ q, q = ad.length := ⟨_, rfl⟩
  have Hnl := Lib.hid hnl
  have Hnd := Lib.hid hnd
  have Hna := Lib.hid hna
  rw [← hnl, ← hnd, ← hna] at hck
  rw [← hnl] at hl ⊢
  rw [← hnd] at hd ⊢
  rw [← hna] at ha hal ⊢
  obtain ⟨-, -, -, hax⟩ := ha.1.at
  have Hax := Lib.hid hax
  have HL := Lib.hid hl
  have HD := Lib.hid hd
  have HA := Lib.hid ha
  have Hck := Lib.hid hck
  clear hnl hnd hna hl hd ha hax hrl hck
  obtain ⟨rc, hrc⟩ : ∃ q : Rc, q = ⟨wh, s, ls, ad, dr⟩ := ⟨_, rfl⟩
  have Hrc := Lib.hid hrc
  rw [← hrc] at Hck ⊢
  clear hrc
  go_enter Try.func12, Try.ntmps12
  go_upto_region 1 with fail
  have hA1 : Below w.heap.size w (w.alloc (.cells #[.bool wh, .int .i64 s, .slice la nl lc, .slice aa na ac, .slice da nd dc] 27)) := (Below.refl _ _).alloc (Nat.le_refl _) _
  have HB := Lib.hid (blk_of_alloc w (.cells #[.bool wh, .int .i64 s, .slice la nl lc, .slice aa na ac, .slice da nd dc] 27))
  have HA1 := Lib.hid hA1
  obtain ⟨rb, hrb⟩ : ∃ q, q = w.heap.size := ⟨_, rfl⟩
  have Hrb := Lib.hid hrb
  rw [← hrb] at HB ⊢
  clear hA1 hrb
  generalize w.alloc (.cells #[.bool wh, .int .i64 s, .slice la nl lc, .slice aa na ac, .slice da nd dc] 27) = W1 at *
  have hcc0 := (cell_of_blk HB.out 0).trans (show _ = some (.bool wh) from rfl)
  have hcc1 := (cell_of_blk HB.out 1).trans (show _ = some (.int .i64 s) from rfl)
  have hcc2 := (cell_of_blk HB.out 2).trans (show _ = some (.slice la nl lc) from rfl)
  have hcc3 := (cell_of_blk HB.out 3).trans (show _ = some (.slice aa na ac) from rfl)
  have hcc4 := (cell_of_blk HB.out 4).trans (show _ = some (.slice da nd dc) from rfl)
  have Hc := Lib.hid (Hck.out W1 HA1.out)
  go_wp2_with fail
  refine Hc.out.mono ?_
  rintro e w2 ⟨rfl, hb2⟩
  have HB2 := Lib.hid (blk_bels hb2 HB.out)
  have Hb2 := Lib.hid (HA1.out.trans (hb2.mono HA1.out.size))
  clear hb2 hcc0 hcc1 hcc2 hcc3 hcc4 Hck Hc HB HA1
  cases hok : recOk rc with
  | false =>
    have hc0 : chkR rc = 20 := by unfold chkR; rw [hok]; rfl
    rw [hc0]
    have Hok := Lib.hid hok
    clear hok
    go_wp2_with fail
    go_ret2
    exact ⟨.inl ⟨Hok.out, rfl⟩, Hb2.out⟩
  | true =>
    have hc0 : chkR rc = 0 := by unfold chkR; rw [hok]; rfl
    rw [hc0]
    have Hok := Lib.hid hok
    have HI := Lib.hid (recOk_is hok)
    clear hok
    have hs0 : 0 ≤ s := by have := HI.out.s0; rw [Hrc.out] at this; exact this
    have hs1 : s ≤ 1099511627776 := by have := HI.out.s1; rw [Hrc.out] at this; exact this
    have Hna64 : Hid (na ≤ 64) := Lib.hid (by have := HI.out.an; rw [Hrc.out] at this; rw [Hna.out]; exact this)
    obtain ⟨sn, rfl⟩ : ∃ sn : Nat, s = (sn : Int) := ⟨s.toNat, by omega⟩
    have hsn2 : sn < 9223372036854775808 := by omega
    obtain ⟨wn, hwn⟩ : ∃ q : Nat, q = if wh then 1 else 0 := ⟨_, rfl⟩
    have Hwn := Lib.hid hwn
    have hwn1 : wn ≤ 1 := by rw [hwn]; split <;> omega
    have HB3 := Lib.hid (blk_old HB2.out (.cells #[.slice none 0 0, .bool false] 93))
    have HW3 := Lib.hid (blk_of_alloc w2 (.cells #[.slice none 0 0, .bool false] 93))
    have Hb3 := Lib.hid (Hb2.out.alloc Hb2.out.size (.cells #[.slice none 0 0, .bool false] 93))
    have hs3 : (w2.alloc (.cells #[.slice none 0 0, .bool false] 93)).heap.size = w2.heap.size + 1 := World.size_alloc _ _
    have hbl : rb < w2.heap.size := blk_lt HB2.out
    obtain ⟨wb, hwb⟩ : ∃ o, o = w2.heap.size := ⟨_, rfl⟩
    have Hwb := Lib.hid hwb
    rw [← hwb] at HW3 hs3 hbl
    have HR3 : Hid (IsWr (w2.alloc (.cells #[.slice none 0 0, .bool false] 93)) (wb + 1) wb []) := Lib.hid ⟨⟨_, HW3.out, World.ownsRow_nil _ _ _ _⟩, Nat.lt_succ_self _, by rw [hs3]; exact Nat.le_refl _⟩
    have Hwle : Hid (w.heap.size ≤ wb) := Lib.hid (by rw [hwb]; exact Hb2.out.size)
    have Hbl := Lib.hid hbl
    clear hwb hs3 HB2 Hb2 hbl hwn hc0
    go_upto_region 6 with fail
    rw [← Hwb.out]
    generalize w2.alloc (.cells #[.slice none 0 0, .bool false] 93) = W3 at *
    clear Hwb HW3
    have b0 := (cell_of_blk HB3.out 0).trans (show _ = some (.bool wh) from rfl)
    go_upto_if 20 with fail
    go_cut [6] (fun v wc => v = .int .i64 wn ∧ wc = W3)
    case first =>
      cases wh with
      | true =>
        obtain rfl : wn = 1 := Hwn.out
        go_wp2_with fail
        go_meet
        case rel => exact ⟨rfl, rfl⟩
      | false =>
        obtain rfl : wn = 0 := Hwn.out
        go_wp2_with fail
        go_meet
        case rel => exact ⟨rfl, rfl⟩
    case rest =>
      obtain ⟨rfl, rfl⟩ := hcut
      clear b0
      have b1 := (cell_of_blk HB3.out 1).trans (show _ = some (.int .i64 (sn : Int)) from rfl)
      have HR3d : Hid (IsWr wc.drew (wb + 1) wb []) := Lib.hid ⟨HR3.out.ex, HR3.out.lt, HR3.out.le⟩
      go_upto_region 8 with fail
      refine wp_region_held_drew (S := fun V' => Hid (Below wb wc V')) (by kernel_rfl) (Lib.hid ((Below.refl _ _).drew)) (fun hS0 => ?_)
      refine wpAnyH_take (i := 0) (oi := { dst := some 21, op := Op.move (Operand.tmp 5), type := 91, pos := "manifest.go:68", after := #[], guard := none }) (v := ?_) rfl (by kernel_rfl) (by kernel_rfl) (by kernel_rfl) (fun _ _ _ h => h) (Or.inl ⟨by rfl, ?hy1⟩) hS0 ?_
      case hy1 => (intro V hSw; (try dsimp only at hSw); clear hSw; go_simp; try with_reducible rfl)
      try simp only [Act.put, List.setIfInBounds_toArray, List.set_cons_zero, List.set_cons_succ]
      refine wpAnyH_take (i := 1) (oi := { dst := some 22, op := Op.move (Operand.tmp 6), type := 3, pos := "manifest.go:68", after := #[], guard := none }) (v := ?_) rfl (by kernel_rfl) (by kernel_rfl) (by kernel_rfl) (fun _ _ _ h => h) (Or.inl ⟨by rfl, ?hy2⟩) hS0 ?_
      case hy2 => (intro V hSw; (try dsimp only at hSw); clear hSw; go_simp; try with_reducible rfl)
      try simp only [Act.put, List.setIfInBounds_toArray, List.set_cons_zero, List.set_cons_succ]
      refine wpAnyH_take (i := 3) (oi := { dst := some 24, op := Op.fieldAddr 27 (Operand.tmp 1) 1, type := 0, pos := "manifest.go:68", after := #[], guard := none }) (v := ?_) rfl (by kernel_rfl) (by kernel_rfl) (by kernel_rfl) (fun _ _ _ h => h) (Or.inl ⟨by rfl, ?hy3⟩) hS0 ?_
      case hy3 => (intro V hSw; (try dsimp only at hSw); clear hSw; go_simp; try with_reducible rfl)
      try simp only [Act.put, List.setIfInBounds_toArray, List.set_cons_zero, List.set_cons_succ]
      refine wpAnyH_take (i := 4) (oi := { dst := some 25, op := Op.load 3 (Operand.tmp 24), type := 3, pos := "manifest.go:68", after := #[{ on := 3, ground := Ground.data }], guard := none }) (v := ?_) rfl (by kernel_rfl) (by kernel_rfl) (by kernel_rfl) (fun _ _ _ h => h) (Or.inl ⟨by rfl, ?hy4⟩) hS0 ?_
      case hy4 => (intro V hSw; (try dsimp only at hSw); have q1 := (hSw.out.cell (p := ⟨rb, 1, none⟩) Hbl.out).trans b1; clear hSw; go_simp; try with_reducible rfl)
      try simp only [Act.put, List.setIfInBounds_toArray, List.set_cons_zero, List.set_cons_succ]
      refine wpAnyH_ready (rs := [2]) (by kernel_rfl) (by simp) (AllReadyH.cons rfl (fun K hK => ?_) AllReadyH.nil)
      go_simp
      refine (wnum_any _ (wb + 1) wb ([]) wn HR3d.out (by omega) (by simp)).mono ?_
      rintro e wv5 ⟨rfl, hw5, hv5, hf5⟩
      have hS5 := Lib.hid (hS0.out.trans hv5)
      have HWr5 := Lib.hid hw5
      clear hv5 hw5 hf5
      refine hK.out _ _ hS5 (fun _ => ?_)
      clear hK K
      try simp only [Act.put, List.setIfInBounds_toArray, List.set_cons_zero, List.set_cons_succ]
      refine wpAnyH_ready (rs := [5]) (by kernel_rfl) (by simp) (AllReadyH.cons rfl (fun K hK => ?_) AllReadyH.nil)
      go_simp
      refine (wnum_any _ (wb + 1) wb ([] ++ encN wn) sn HWr5.out (by omega) (by have h1 := encN_le wn; simp only [List.length_append, List.length_nil]; omega)).mono ?_
      rintro e wv6 ⟨rfl, hw6, hv6, hf6⟩
      have hS6 := Lib.hid (hS5.out.trans hv6)
      have HWr6 := Lib.hid hw6
      clear hv6 hw6 hf6
      refine hK.out _ _ hS6 (fun _ => ?_)
      clear hK K
      try simp only [Act.put, List.setIfInBounds_toArray, List.set_cons_zero, List.set_cons_succ]
      refine wpAnyH_done (by kernel_rfl) ?_ _
      have HbW := Lib.hid hS6.out
      obtain ⟨P8, hP8⟩ : ∃ q, q = ([] ++ encN wn) ++ encN sn := ⟨_, rfl⟩
      have HP8 := Lib.hid hP8
      have hp8 : P8.length ≤ 20 := by rw [hP8]; have h1 := encN_le wn; have h2 := encN_le sn; simp only [List.length_append, List.length_nil]; omega
      have HWp : Hid (IsWr wv6 (wb + 1) wb P8) := Lib.hid (by rw [hP8]; exact HWr6.out)
      have HB8 := Lib.hid ((hS6.out.block rb Hbl.out).trans HB3.out)
      have b2 := (cell_of_blk HB8.out 2).trans (show _ = some (.slice la nl lc) from rfl)
      have Hbw8 := Lib.hid (Hb3.out.trans (HbW.out.mono Hwle.out))
      have Hli := Lib.hid (mlist_any w wv6 (wb + 1) wb P8 _ ls HWp.out HL.out Hbw8.out Hwle.out (by have := HI.out.lz; rw [Hrc.out] at this; exact this) (by have := HI.out.ln; rw [Hrc.out] at this; exact this) (by omega))
      have hE9 := encZs_le (l := ls) (by have := HI.out.ln; rw [Hrc.out] at this; exact this)
      clear b1 hP8 hS0
      go_wp2_with fail
      refine Hli.out.mono ?_
      rintro e w9 ⟨rfl, h9, hb9, -⟩
      obtain ⟨P9, hP9⟩ : ∃ q, q = P8 ++ encZs ls := ⟨_, rfl⟩
      have HP9 := Lib.hid hP9
      have hp9 : P9.length ≤ 670 := by rw [hP9, List.length_append]; omega
      rw [← hP9] at h9
      have HW9 := Lib.hid h9
      have Hb9 := Lib.hid (HbW.out.trans hb9)
      have HB9 := Lib.hid ((Hb9.out.block rb Hbl.out).trans HB3.out)
      have b4 := (cell_of_blk HB9.out 4).trans (show _ = some (.slice da nd dc) from rfl)
      have Hbw9 := Lib.hid (Hb3.out.trans (Hb9.out.mono Hwle.out))
      have Hld := Lib.hid (mlist_any w w9 (wb + 1) wb P9 _ dr HW9.out HD.out Hbw9.out Hwle.out (by have := HI.out.dz; rw [Hrc.out] at this; exact this) (by have := HI.out.dn; rw [Hrc.out] at this; exact this) (by omega))
      have hE10 := encZs_le (l := dr) (by have := HI.out.dn; rw [Hrc.out] at this; exact this)
      clear b2 hP9 h9 hb9 Hli HWp HB8 HbW Hbw8 hE9
      go_wp2_with fail
      refine Hld.out.mono ?_
      rintro e w10 ⟨rfl, h10, hb10, -⟩
      obtain ⟨P10, hP10⟩ : ∃ q, q = P9 ++ encZs dr := ⟨_, rfl⟩
      have HP10 := Lib.hid hP10
      have hp10 : P10.length ≤ 1320 := by rw [hP10, List.length_append]; omega
      rw [← hP10] at h10
      have HW10 := Lib.hid h10
      have Hb10 := Lib.hid (Hb9.out.trans hb10)
      have HB10 := Lib.hid ((Hb10.out.block rb Hbl.out).trans HB3.out)
      have b3 := (cell_of_blk HB10.out 3).trans (show _ = some (.slice aa na ac) from rfl)
      have Hn11 := Lib.hid (wnum_any w10 (wb + 1) wb P10 na HW10.out (by omega) (by omega))
      clear b4 hP10 h10 hb10 Hld HW9 Hb9 HB9 Hbw9 hE10
      go_wp2_with fail
      refine Hn11.out.mono ?_
      rintro e w11 ⟨rfl, h11, hb11, -⟩
      obtain ⟨PL, hPL⟩ : ∃ q, q = P10 ++ encN na := ⟨_, rfl⟩
      have HPL := Lib.hid hPL
      have hpl : PL.length ≤ 1330 := by rw [hPL, List.length_append]; have := encN_le na; omega
      rw [← hPL] at h11
      have HW11 := Lib.hid h11
      have Hb11 := Lib.hid (Hb10.out.trans hb11)
      have HB11 := Lib.hid ((Hb11.out.block rb Hbl.out).trans HB3.out)
      have b3' := (cell_of_blk HB11.out 3).trans (show _ = some (.slice aa na ac) from rfl)
      clear b3 hPL h11 hb11 Hn11 HW10 Hb10 HB10
      have HAp : Hid (∀ p ∈ ad, PlIs (p.1, p.2.1)) := Lib.hid (by have := HI.out.ap; rw [Hrc.out] at this; exact this)
      have hna64 := Hna64.out
      go_wp2_with fail
      clear b3'
      go_loopw [46] (fun iv wr => ∃ k : Nat, k ≤ na ∧ iv = .int .i64 k ∧ IsWr wr (wb + 1) wb (PL ++ (ad.take k).flatMap fun p => encP (p.1, p.2.1)) ∧ Below wb wc wr) (fun iv _ => na - (intOf iv).toNat)
      case atStart => exact ⟨0, Nat.zero_le _, rfl, by rw [List.take_zero, List.flatMap_nil, List.append_nil]; exact HW11.out, Hb11.out⟩
      case round =>
        clear HW11 Hb11 HB11
        obtain ⟨wo, rfl⟩ : ∃ wo : World, wo = wr := ⟨_, rfl⟩
        obtain ⟨k, hk, rfl, hwr, hb⟩ := hrel
        have Hwr := Lib.hid hwr
        have Hb := Lib.hid hb
        clear hwr hb
        by_cases hkn : k < na
        · obtain ⟨be, off, rfl, hcell⟩ := Hax.out (by omega)
          obtain ⟨⟨lv, ⟨⟨mz, mn, ka, kb, refs⟩, vr⟩⟩, hxk⟩ : ∃ x, ad[k]? = some x := ⟨_, List.getElem?_eq_getElem (by rw [← Hna.out]; exact hkn)⟩
          have hwo : Below w.heap.size w wo := Hb3.out.trans (Hb.out.mono Hwle.out)
          have hmem := List.mem_of_getElem? hxk
          have hpi := HAp.out _ hmem
          have hrr := HA.out.2 _ hmem
          dsimp only at hrr hpi
          obtain ⟨ra, rcp, rfl, -, -, -⟩ := id hrr
          have hcx := fun j y hj => (hwo.cell (block_lt_of_cell (hcell k _ hxk j y hj))).trans (hcell k _ hxk j y hj)
          have c0 := hcx 0 _ rfl
          have c1 := hcx 1 _ rfl
          have c2 := hcx 2 _ rfl
          have c3 := hcx 3 _ rfl
          have c4 := hcx 4 _ rfl
          have c5 := hcx 5 _ rfl
          have c6 := hcx 6 _ rfl
          have c7 := hcx 7 _ rfl
          have c8 := hcx 8 _ rfl
          have c9 := hcx 9 _ rfl
          rw [Nat.add_zero] at c0
          have htk := take_flat (fun p : Int × Mr => encP (p.1, p.2.1)) hxk
          have Htk := Lib.hid htk
          have hlen : (PL ++ (ad.take k).flatMap fun p : Int × Mr => encP (p.1, p.2.1)).length ≤ 48000 := by
            rw [List.length_append]
            have h1 := adds_le (l := ad.take k) (fun p hp => HAp.out p (List.mem_of_mem_take hp))
            have h2 : (ad.take k).length ≤ k := List.length_take_le _ _
            omega
          obtain ⟨BL, hBL⟩ : ∃ q, q = PL ++ (ad.take k).flatMap fun p : Int × Mr => encP (p.1, p.2.1) := ⟨_, rfl⟩
          rw [← hBL] at Hwr hlen
          have HBL := Lib.hid hBL
          obtain ⟨l0, l4, z0, z64, n1, n2, kaok, kbok, rs, rn⟩ := hpi
          dsimp only at l0 l4 z0 z64 n1 n2 kaok kbok rs rn
          obtain ⟨lvn, rfl⟩ : ∃ q : Nat, lv = (q : Int) := ⟨lv.toNat, by omega⟩
          obtain ⟨mzn, rfl⟩ : ∃ q : Nat, mz = (q : Int) := ⟨mz.toNat, by omega⟩
          obtain ⟨mnn, rfl⟩ : ∃ q : Nat, mn = (q : Int) := ⟨mn.toNat, by omega⟩
          have Hrs := Lib.hid rs
          have Hka := Lib.hid kaok
          have Hkb := Lib.hid kbok
          have hta := txtK_le kaok
          have htb := txtK_le kbok
          obtain ⟨rln, hrln⟩ : ∃ q, q = refs.length := ⟨_, rfl⟩
          have Hrln := Lib.hid hrln
          rw [← hrln] at c9 rn hrr
          have Hrr := Lib.hid hrr
          have Hwo := Lib.hid hwo
          clear hcell hxk htk hwo hmem hcx hBL rs kaok kbok hrln hrr
          have hA : Below wo.heap.size wo (wo.alloc (.cells #[.int .i64 (lvn : Int), .int .i64 (mzn : Int), .int .i64 (mnn : Int), .string ka.u, .int .i64 ka.s, .int .i64 ka.k, .string kb.u, .int .i64 kb.s, .int .i64 kb.k, .slice ra rln rcp] 80)) := (Below.refl _ _).alloc (Nat.le_refl _) _
          have HSp := Lib.hid (blk_of_alloc wo (.cells #[.int .i64 (lvn : Int), .int .i64 (mzn : Int), .int .i64 (mnn : Int), .string ka.u, .int .i64 ka.s, .int .i64 ka.k, .string kb.u, .int .i64 kb.s, .int .i64 kb.k, .slice ra rln rcp] 80))
          have hwlt : wb < wo.heap.size := Nat.lt_of_lt_of_le Hwr.out.lt Hwr.out.le
          have HbA := Lib.hid (Hb.out.trans (hA.mono (Nat.le_of_lt hwlt)))
          have HWa := Lib.hid (Hwr.out.bel hA)
          have HwA := Lib.hid (Hwo.out.trans (hA.mono Hwo.out.size))
          obtain ⟨pb, hpb⟩ : ∃ o, o = wo.heap.size := ⟨_, rfl⟩
          have hpw : pb ≠ wb := by omega
          have Hpb := Lib.hid hpb
          rw [← hpb] at HSp
          clear hA hpb
          go_upto_region 15 with fail
          rw [← Hpb.out]
          generalize wo.alloc (.cells #[.int .i64 (lvn : Int), .int .i64 (mzn : Int), .int .i64 (mnn : Int), .string ka.u, .int .i64 ka.s, .int .i64 ka.k, .string kb.u, .int .i64 kb.s, .int .i64 kb.k, .slice ra rln rcp] 80) = Wp at *
          clear Hpb c0 c1 c2 c3 c4 c5 c6 c7 c8 c9 Hwr Hb Hwo
          have p0 := (cell_of_blk HSp.out 0).trans (show _ = some (.int .i64 (lvn : Int)) from rfl)
          have p1 := (cell_of_blk HSp.out 1).trans (show _ = some (.int .i64 (mzn : Int)) from rfl)
          have p2 := (cell_of_blk HSp.out 2).trans (show _ = some (.int .i64 (mnn : Int)) from rfl)
          have p3 := (cell_of_blk HSp.out 3).trans (show _ = some (.string ka.u) from rfl)
          have p4 := (cell_of_blk HSp.out 4).trans (show _ = some (.int .i64 ka.s) from rfl)
          have p5 := (cell_of_blk HSp.out 5).trans (show _ = some (.int .i64 ka.k) from rfl)
          have p6 := (cell_of_blk HSp.out 6).trans (show _ = some (.string kb.u) from rfl)
          have p7 := (cell_of_blk HSp.out 7).trans (show _ = some (.int .i64 kb.s) from rfl)
          have p8 := (cell_of_blk HSp.out 8).trans (show _ = some (.int .i64 kb.k) from rfl)
          have p9 := (cell_of_blk HSp.out 9).trans (show _ = some (.slice ra rln rcp) from rfl)
          have hA : Below Wp.heap.size Wp (Wp.alloc (.cells #[.int .i64 (mzn : Int), .int .i64 (mnn : Int), .string ka.u, .int .i64 ka.s, .int .i64 ka.k, .string kb.u, .int .i64 kb.s, .int .i64 kb.k, .slice ra rln rcp] 78)) := (Below.refl _ _).alloc (Nat.le_refl _) _
          have HSm := Lib.hid (blk_of_alloc Wp (.cells #[.int .i64 (mzn : Int), .int .i64 (mnn : Int), .string ka.u, .int .i64 ka.s, .int .i64 ka.k, .string kb.u, .int .i64 kb.s, .int .i64 kb.k, .slice ra rln rcp] 78))
          have HSp2 := Lib.hid (blk_old HSp.out (.cells #[.int .i64 (mzn : Int), .int .i64 (mnn : Int), .string ka.u, .int .i64 ka.s, .int .i64 ka.k, .string kb.u, .int .i64 kb.s, .int .i64 kb.k, .slice ra rln rcp] 78))
          have hwlt2 : wb < Wp.heap.size := Nat.lt_of_lt_of_le HWa.out.lt HWa.out.le
          have HbM := Lib.hid (HbA.out.trans (hA.mono (Nat.le_of_lt hwlt2)))
          have HWm := Lib.hid (HWa.out.bel hA)
          have HwM := Lib.hid (HwA.out.trans (hA.mono HwA.out.size))
          obtain ⟨mb, hmb⟩ : ∃ o, o = Wp.heap.size := ⟨_, rfl⟩
          have hmw : mb ≠ wb := by omega
          have Hmb := Lib.hid hmb
          rw [← hmb] at HSm
          clear hA hmb
          go_upto_region 16 with fail
          rw [← Hmb.out]
          generalize Wp.alloc (.cells #[.int .i64 (mzn : Int), .int .i64 (mnn : Int), .string ka.u, .int .i64 ka.s, .int .i64 ka.k, .string kb.u, .int .i64 kb.s, .int .i64 kb.k, .slice ra rln rcp] 78) = W at *
          clear Hmb p0 p1 p2 p3 p4 p5 p6 p7 p8 p9 HWa HbA HwA HSp
          have Hnp := Lib.hid (HWm.out.notOwn HSp2.out (by decide))
          have Hnm := Lib.hid (HWm.out.notOwn HSm.out (by decide))
          refine wp_region_held_drew (S := fun V' => Hid (Below wb W V' ∧ FarW W V' wb)) (by kernel_rfl) (Lib.hid ⟨(Below.refl _ _).drew, fun s x hx _ hn => ⟨hx, hn⟩⟩) (fun hS0 => ?_)
          have HWd : Hid (IsWr W.drew (wb + 1) wb BL) := Lib.hid ⟨HWm.out.ex, HWm.out.lt, HWm.out.le⟩
          refine wpAnyH_take (i := 0) (oi := { dst := some 52, op := Op.move (Operand.tmp 5), type := 91, pos := "manifest.go:74", after := #[], guard := none }) (v := ?_) rfl (by kernel_rfl) (by kernel_rfl) (by kernel_rfl) (fun _ _ _ h => h) (Or.inl ⟨by rfl, ?hy7⟩) hS0 ?_
          case hy7 => (intro V hSw; (try dsimp only at hSw); clear hSw; go_simp; try with_reducible rfl)
          try simp only [Act.put, List.setIfInBounds_toArray, List.set_cons_zero, List.set_cons_succ]
          refine wpAnyH_take (i := 1) (oi := { dst := some 53, op := Op.fieldAddr 80 (Operand.tmp 8) 0, type := 0, pos := "manifest.go:74", after := #[], guard := none }) (v := ?_) rfl (by kernel_rfl) (by kernel_rfl) (by kernel_rfl) (fun _ _ _ h => h) (Or.inl ⟨by rfl, ?hy8⟩) hS0 ?_
          case hy8 => (intro V hSw; (try dsimp only at hSw); clear hSw; go_simp; try with_reducible rfl)
          try simp only [Act.put, List.setIfInBounds_toArray, List.set_cons_zero, List.set_cons_succ]
          refine wpAnyH_take (i := 2) (oi := { dst := some 54, op := Op.load 3 (Operand.tmp 53), type := 3, pos := "manifest.go:74", after := #[{ on := 1, ground := Ground.data }], guard := none }) (v := ?_) rfl (by kernel_rfl) (by kernel_rfl) (by kernel_rfl) (fun _ _ _ h => h) (Or.inl ⟨by rfl, ?hy9⟩) hS0 ?_
          case hy9 => (intro V hSw; (try dsimp only at hSw); have q0 := (cell_of_blk (hSw.out.2 pb _ HSp2.out hpw Hnp.out).1 0).trans (show _ = some (.int .i64 (lvn : Int)) from rfl); have q1 := (cell_of_blk (hSw.out.2 mb _ HSm.out hmw Hnm.out).1 0).trans (show _ = some (.int .i64 (mzn : Int)) from rfl); have q2 := (cell_of_blk (hSw.out.2 mb _ HSm.out hmw Hnm.out).1 1).trans (show _ = some (.int .i64 (mnn : Int)) from rfl); clear hSw; go_simp; try with_reducible rfl)
          try simp only [Act.put, List.setIfInBounds_toArray, List.set_cons_zero, List.set_cons_succ]
          refine wpAnyH_take (i := 4) (oi := { dst := some 56, op := Op.fieldAddr 78 (Operand.tmp 9) 0, type := 0, pos := "manifest.go:74", after := #[], guard := none }) (v := ?_) rfl (by kernel_rfl) (by kernel_rfl) (by kernel_rfl) (fun _ _ _ h => h) (Or.inl ⟨by rfl, ?hy10⟩) hS0 ?_
          case hy10 => (intro V hSw; (try dsimp only at hSw); clear hSw; go_simp; try with_reducible rfl)
          try simp only [Act.put, List.setIfInBounds_toArray, List.set_cons_zero, List.set_cons_succ]
          refine wpAnyH_take (i := 5) (oi := { dst := some 57, op := Op.load 3 (Operand.tmp 56), type := 3, pos := "manifest.go:74", after := #[{ on := 4, ground := Ground.data }], guard := none }) (v := ?_) rfl (by kernel_rfl) (by kernel_rfl) (by kernel_rfl) (fun _ _ _ h => h) (Or.inl ⟨by rfl, ?hy11⟩) hS0 ?_
          case hy11 => (intro V hSw; (try dsimp only at hSw); have q0 := (cell_of_blk (hSw.out.2 pb _ HSp2.out hpw Hnp.out).1 0).trans (show _ = some (.int .i64 (lvn : Int)) from rfl); have q1 := (cell_of_blk (hSw.out.2 mb _ HSm.out hmw Hnm.out).1 0).trans (show _ = some (.int .i64 (mzn : Int)) from rfl); have q2 := (cell_of_blk (hSw.out.2 mb _ HSm.out hmw Hnm.out).1 1).trans (show _ = some (.int .i64 (mnn : Int)) from rfl); clear hSw; go_simp; try with_reducible rfl)
          try simp only [Act.put, List.setIfInBounds_toArray, List.set_cons_zero, List.set_cons_succ]
          refine wpAnyH_take (i := 7) (oi := { dst := some 59, op := Op.fieldAddr 78 (Operand.tmp 9) 1, type := 0, pos := "manifest.go:74", after := #[], guard := none }) (v := ?_) rfl (by kernel_rfl) (by kernel_rfl) (by kernel_rfl) (fun _ _ _ h => h) (Or.inl ⟨by rfl, ?hy12⟩) hS0 ?_
          case hy12 => (intro V hSw; (try dsimp only at hSw); clear hSw; go_simp; try with_reducible rfl)
          try simp only [Act.put, List.setIfInBounds_toArray, List.set_cons_zero, List.set_cons_succ]
          refine wpAnyH_take (i := 8) (oi := { dst := some 60, op := Op.load 3 (Operand.tmp 59), type := 3, pos := "manifest.go:74", after := #[{ on := 7, ground := Ground.data }], guard := none }) (v := ?_) rfl (by kernel_rfl) (by kernel_rfl) (by kernel_rfl) (fun _ _ _ h => h) (Or.inl ⟨by rfl, ?hy13⟩) hS0 ?_
          case hy13 => (intro V hSw; (try dsimp only at hSw); have q0 := (cell_of_blk (hSw.out.2 pb _ HSp2.out hpw Hnp.out).1 0).trans (show _ = some (.int .i64 (lvn : Int)) from rfl); have q1 := (cell_of_blk (hSw.out.2 mb _ HSm.out hmw Hnm.out).1 0).trans (show _ = some (.int .i64 (mzn : Int)) from rfl); have q2 := (cell_of_blk (hSw.out.2 mb _ HSm.out hmw Hnm.out).1 1).trans (show _ = some (.int .i64 (mnn : Int)) from rfl); clear hSw; go_simp; try with_reducible rfl)
          try simp only [Act.put, List.setIfInBounds_toArray, List.set_cons_zero, List.set_cons_succ]
          refine wpAnyH_ready (rs := [3]) (by kernel_rfl) (by simp) (AllReadyH.cons rfl (fun K hK => ?_) AllReadyH.nil)
          go_simp
          refine (wnum_any _ (wb + 1) wb (BL) lvn HWd.out (by omega) (by omega)).mono ?_
          rintro e wv14 ⟨rfl, hw14, hv14, hf14⟩
          have hS14 := Lib.hid (And.intro (hS0.out.1.trans hv14) (hS0.out.2.trans hf14))
          have HWr14 := Lib.hid hw14
          clear hv14 hw14 hf14
          refine hK.out _ _ hS14 (fun _ => ?_)
          clear hK K
          try simp only [Act.put, List.setIfInBounds_toArray, List.set_cons_zero, List.set_cons_succ]
          refine wpAnyH_ready (rs := [6]) (by kernel_rfl) (by simp) (AllReadyH.cons rfl (fun K hK => ?_) AllReadyH.nil)
          go_simp
          refine (wnum_any _ (wb + 1) wb (BL ++ encN lvn) mzn HWr14.out (by omega) (by have h1 := encN_le lvn; have h2 := encN_le mzn; have h3 := encN_le mnn; simp only [List.length_append]; omega)).mono ?_
          rintro e wv15 ⟨rfl, hw15, hv15, hf15⟩
          have hS15 := Lib.hid (And.intro (hS14.out.1.trans hv15) (hS14.out.2.trans hf15))
          have HWr15 := Lib.hid hw15
          clear hv15 hw15 hf15
          refine hK.out _ _ hS15 (fun _ => ?_)
          clear hK K
          try simp only [Act.put, List.setIfInBounds_toArray, List.set_cons_zero, List.set_cons_succ]
          refine wpAnyH_ready (rs := [9]) (by kernel_rfl) (by simp) (AllReadyH.cons rfl (fun K hK => ?_) AllReadyH.nil)
          go_simp
          refine (wnum_any _ (wb + 1) wb ((BL ++ encN lvn) ++ encN mzn) mnn HWr15.out (by omega) (by have h1 := encN_le lvn; have h2 := encN_le mzn; have h3 := encN_le mnn; simp only [List.length_append]; omega)).mono ?_
          rintro e wv16 ⟨rfl, hw16, hv16, hf16⟩
          have hS16 := Lib.hid (And.intro (hS15.out.1.trans hv16) (hS15.out.2.trans hf16))
          have HWr16 := Lib.hid hw16
          clear hv16 hw16 hf16
          refine hK.out _ _ hS16 (fun _ => ?_)
          clear hK K
          try simp only [Act.put, List.setIfInBounds_toArray, List.set_cons_zero, List.set_cons_succ]
          refine wpAnyH_done (by kernel_rfl) ?_ _
          obtain ⟨L3, hL3⟩ : ∃ q, q = ((BL ++ encN lvn) ++ encN mzn) ++ encN mnn := ⟨_, rfl⟩
          have HL3 := Lib.hid hL3
          have hl3 : L3.length ≤ 48030 := by rw [hL3]; have h1 := encN_le lvn; have h2 := encN_le mzn; have h3 := encN_le mnn; simp only [List.length_append]; omega
          have HW16 : Hid (IsWr wv16 (wb + 1) wb L3) := Lib.hid (by rw [hL3]; exact HWr16.out)
          have HS16 := hS16
          obtain ⟨w16, hw16⟩ : ∃ q : World, q = wv16 := ⟨_, rfl⟩
          rw [← hw16] at HW16 HS16 ⊢
          clear hL3 hw16 hS0
          have hsm := HS16.out.2 mb _ HSm.out hmw Hnm.out
          have m2 := (cell_of_blk hsm.1 2).trans (show _ = some (.string ka.u) from rfl)
          have m3 := (cell_of_blk hsm.1 3).trans (show _ = some (.int .i64 ka.s) from rfl)
          have m4 := (cell_of_blk hsm.1 4).trans (show _ = some (.int .i64 ka.k) from rfl)
          have hkc := mkey_any w16 (wb + 1) wb L3 ka HW16.out Hka.out (by omega)
          unfold Ky.v at hkc
          have Hkc := Lib.hid hkc
          clear hkc hsm
          go_wp2_with fail
          refine Hkc.out.mono ?_
          rintro e w17 ⟨rfl, h17, hb17, hf17⟩
          obtain ⟨L4, hL4⟩ : ∃ q, q = L3 ++ txtB (encK ka) := ⟨_, rfl⟩
          have HL4 := Lib.hid hL4
          have hl4 : L4.length ≤ 48200 := by rw [hL4, List.length_append]; omega
          have HW17 : Hid (IsWr w17 (wb + 1) wb L4) := Lib.hid (by rw [hL4]; exact h17)
          have HS17 := Lib.hid (And.intro (HS16.out.1.trans hb17) (HS16.out.2.trans hf17))
          clear hL4 h17 hb17 hf17 Hkc HW16 HS16 m2 m3 m4
          have hsm := HS17.out.2 mb _ HSm.out hmw Hnm.out
          have m5 := (cell_of_blk hsm.1 5).trans (show _ = some (.string kb.u) from rfl)
          have m6 := (cell_of_blk hsm.1 6).trans (show _ = some (.int .i64 kb.s) from rfl)
          have m7 := (cell_of_blk hsm.1 7).trans (show _ = some (.int .i64 kb.k) from rfl)
          have hkc := mkey_any w17 (wb + 1) wb L4 kb HW17.out Hkb.out (by omega)
          unfold Ky.v at hkc
          have Hkc := Lib.hid hkc
          clear hkc hsm
          go_wp2_with fail
          refine Hkc.out.mono ?_
          rintro e w18 ⟨rfl, h18, hb18, hf18⟩
          obtain ⟨L5, hL5⟩ : ∃ q, q = L4 ++ txtB (encK kb) := ⟨_, rfl⟩
          have HL5 := Lib.hid hL5
          have hl5 : L5.length ≤ 48400 := by rw [hL5, List.length_append]; omega
          have HW18 : Hid (IsWr w18 (wb + 1) wb L5) := Lib.hid (by rw [hL5]; exact h18)
          have HS18 := Lib.hid (And.intro (HS17.out.1.trans hb18) (HS17.out.2.trans hf18))
          clear hL5 h18 hb18 hf18 Hkc HW17 HS17 m5 m6 m7
          have hsm := HS18.out.2 mb _ HSm.out hmw Hnm.out
          have m8 := (cell_of_blk hsm.1 8).trans (show _ = some (.slice ra rln rcp) from rfl)
          have Hkc := Lib.hid (wnum_any w18 (wb + 1) wb L5 rln HW18.out (by omega) (by omega))
          clear hsm
          go_wp2_with fail
          refine Hkc.out.mono ?_
          rintro e w19 ⟨rfl, h19, hb19, hf19⟩
          obtain ⟨L6, hL6⟩ : ∃ q, q = L5 ++ encN rln := ⟨_, rfl⟩
          have HL6 := Lib.hid hL6
          have hl6 : L6.length ≤ 48410 := by rw [hL6, List.length_append]; have := encN_le rln; omega
          have HW19 : Hid (IsWr w19 (wb + 1) wb L6) := Lib.hid (by rw [hL6]; exact h19)
          have HS19 := Lib.hid (And.intro (HS18.out.1.trans hb19) (HS18.out.2.trans hf19))
          clear hL6 h19 hb19 hf19 Hkc HW18 HS18 m8
          have hsm := HS19.out.2 mb _ HSm.out hmw Hnm.out
          have m8 := (cell_of_blk hsm.1 8).trans (show _ = some (.slice ra rln rcp) from rfl)
          have HbE := Lib.hid (HbM.out.trans HS19.out.1)
          have Hrx := Lib.hid Hrr.out.at.2.2.2
          clear hsm HS19
          go_wp2_with fail
          clear m8
          go_loopw [78] (fun iv wr => ∃ j : Nat, j ≤ rln ∧ iv = .int .i64 j ∧ IsWr wr (wb + 1) wb (L6 ++ (refs.take j).flatMap encRf) ∧ Below wb wc wr) (fun iv _ => rln - (intOf iv).toNat)
          case atStart => exact ⟨0, Nat.zero_le _, rfl, by rw [List.take_zero, List.flatMap_nil, List.append_nil]; exact HW19.out, HbE.out⟩
          case round =>
            clear HW19 HbE
            obtain ⟨wq, rfl⟩ : ∃ wq : World, wq = wr := ⟨_, rfl⟩
            obtain ⟨j, hj, rfl, hwr, hb⟩ := hrel
            have Hwr := Lib.hid hwr
            have Hb := Lib.hid hb
            clear hwr hb
            by_cases hjn : j < rln
            · obtain ⟨bf, off, rfl, hcell⟩ := Hrx.out (by omega)
              obtain ⟨⟨x, y⟩, hxj⟩ : ∃ x, refs[j]? = some x := ⟨_, List.getElem?_eq_getElem (by rw [← Hrln.out]; exact hjn)⟩
              have hwq : Below w.heap.size w wq := Hb3.out.trans (Hb.out.mono Hwle.out)
              have hxy := Hrs.out _ (List.mem_of_getElem? hxj)
              dsimp only at hxy
              have hcx := fun i y hi => (hwq.cell (block_lt_of_cell (hcell j _ hxj i y hi))).trans (hcell j _ hxj i y hi)
              have c0 := hcx 0 _ rfl
              have c1 := hcx 1 _ rfl
              rw [Nat.add_zero] at c0
              obtain ⟨xn, rfl⟩ : ∃ q : Nat, x = (q : Int) := ⟨x.toNat, by omega⟩
              obtain ⟨yn, rfl⟩ : ∃ q : Nat, y = (q : Int) := ⟨y.toNat, by omega⟩
              have Htj := Lib.hid (take_flat encRf hxj)
              have hlen2 : (L6 ++ (refs.take j).flatMap encRf).length ≤ 49000 := by
                rw [List.length_append]
                have h1 := flat_le (f := encRf) (b := 6) (l := refs.take j) (fun r hr => encRf_le (Hrs.out r (List.mem_of_mem_take hr)))
                have h2 : (refs.take j).length ≤ j := List.length_take_le _ _
                omega
              obtain ⟨BJ, hBJ⟩ : ∃ q, q = L6 ++ (refs.take j).flatMap encRf := ⟨_, rfl⟩
              rw [← hBJ] at Hwr hlen2
              have HBJ := Lib.hid hBJ
              clear hcell hxj hwq hcx hBJ
              have hA : Below wq.heap.size wq (wq.alloc (.cells #[.int .i64 (xn : Int), .int .i64 (yn : Int)] 87)) := (Below.refl _ _).alloc (Nat.le_refl _) _
              have HSx := Lib.hid (blk_of_alloc wq (.cells #[.int .i64 (xn : Int), .int .i64 (yn : Int)] 87))
              have hwlt3 : wb < wq.heap.size := Nat.lt_of_lt_of_le Hwr.out.lt Hwr.out.le
              have HbX := Lib.hid (Hb.out.trans (hA.mono (Nat.le_of_lt hwlt3)))
              have HWx := Lib.hid (Hwr.out.bel hA)
              obtain ⟨xb, hxb⟩ : ∃ o, o = wq.heap.size := ⟨_, rfl⟩
              have hxw : xb ≠ wb := by omega
              have Hxb := Lib.hid hxb
              rw [← hxb] at HSx
              clear hA hxb
              go_upto_region 23 with fail
              rw [← Hxb.out]
              generalize wq.alloc (.cells #[.int .i64 (xn : Int), .int .i64 (yn : Int)] 87) = X at *
              clear Hxb c0 c1 Hwr Hb
              have Hnx := Lib.hid (HWx.out.notOwn HSx.out (by decide))
              refine wp_region_held_drew (S := fun V' => Hid (Below wb X V' ∧ FarW X V' wb)) (by kernel_rfl) (Lib.hid ⟨(Below.refl _ _).drew, fun s x hx _ hn => ⟨hx, hn⟩⟩) (fun hS0 => ?_)
              have HWd : Hid (IsWr X.drew (wb + 1) wb BJ) := Lib.hid ⟨HWx.out.ex, HWx.out.lt, HWx.out.le⟩
              refine wpAnyH_take (i := 0) (oi := { dst := some 82, op := Op.move (Operand.tmp 5), type := 91, pos := "manifest.go:79", after := #[], guard := none }) (v := ?_) rfl (by kernel_rfl) (by kernel_rfl) (by kernel_rfl) (fun _ _ _ h => h) (Or.inl ⟨by rfl, ?hy17⟩) hS0 ?_
              case hy17 => (intro V hSw; (try dsimp only at hSw); clear hSw; go_simp; try with_reducible rfl)
              try simp only [Act.put, List.setIfInBounds_toArray, List.set_cons_zero, List.set_cons_succ]
              refine wpAnyH_take (i := 1) (oi := { dst := some 83, op := Op.fieldAddr 87 (Operand.tmp 11) 0, type := 0, pos := "manifest.go:79", after := #[], guard := none }) (v := ?_) rfl (by kernel_rfl) (by kernel_rfl) (by kernel_rfl) (fun _ _ _ h => h) (Or.inl ⟨by rfl, ?hy18⟩) hS0 ?_
              case hy18 => (intro V hSw; (try dsimp only at hSw); clear hSw; go_simp; try with_reducible rfl)
              try simp only [Act.put, List.setIfInBounds_toArray, List.set_cons_zero, List.set_cons_succ]
              refine wpAnyH_take (i := 2) (oi := { dst := some 84, op := Op.load 3 (Operand.tmp 83), type := 3, pos := "manifest.go:79", after := #[{ on := 1, ground := Ground.data }], guard := none }) (v := ?_) rfl (by kernel_rfl) (by kernel_rfl) (by kernel_rfl) (fun _ _ _ h => h) (Or.inl ⟨by rfl, ?hy19⟩) hS0 ?_
              case hy19 => (intro V hSw; (try dsimp only at hSw); have q0 := (cell_of_blk (hSw.out.2 xb _ HSx.out hxw Hnx.out).1 0).trans (show _ = some (.int .i64 (xn : Int)) from rfl); have q1 := (cell_of_blk (hSw.out.2 xb _ HSx.out hxw Hnx.out).1 1).trans (show _ = some (.int .i64 (yn : Int)) from rfl); clear hSw; go_simp; try with_reducible rfl)
              try simp only [Act.put, List.setIfInBounds_toArray, List.set_cons_zero, List.set_cons_succ]
              refine wpAnyH_take (i := 4) (oi := { dst := some 86, op := Op.fieldAddr 87 (Operand.tmp 11) 1, type := 0, pos := "manifest.go:79", after := #[], guard := none }) (v := ?_) rfl (by kernel_rfl) (by kernel_rfl) (by kernel_rfl) (fun _ _ _ h => h) (Or.inl ⟨by rfl, ?hy20⟩) hS0 ?_
              case hy20 => (intro V hSw; (try dsimp only at hSw); clear hSw; go_simp; try with_reducible rfl)
              try simp only [Act.put, List.setIfInBounds_toArray, List.set_cons_zero, List.set_cons_succ]
              refine wpAnyH_take (i := 5) (oi := { dst := some 87, op := Op.load 3 (Operand.tmp 86), type := 3, pos := "manifest.go:79", after := #[{ on := 4, ground := Ground.data }], guard := none }) (v := ?_) rfl (by kernel_rfl) (by kernel_rfl) (by kernel_rfl) (fun _ _ _ h => h) (Or.inl ⟨by rfl, ?hy21⟩) hS0 ?_
              case hy21 => (intro V hSw; (try dsimp only at hSw); have q0 := (cell_of_blk (hSw.out.2 xb _ HSx.out hxw Hnx.out).1 0).trans (show _ = some (.int .i64 (xn : Int)) from rfl); have q1 := (cell_of_blk (hSw.out.2 xb _ HSx.out hxw Hnx.out).1 1).trans (show _ = some (.int .i64 (yn : Int)) from rfl); clear hSw; go_simp; try with_reducible rfl)
              try simp only [Act.put, List.setIfInBounds_toArray, List.set_cons_zero, List.set_cons_succ]
              refine wpAnyH_ready (rs := [3]) (by kernel_rfl) (by simp) (AllReadyH.cons rfl (fun K hK => ?_) AllReadyH.nil)
              go_simp
              refine (wnum_any _ (wb + 1) wb (BJ) xn HWd.out (by omega) (by omega)).mono ?_
              rintro e wv22 ⟨rfl, hw22, hv22, hf22⟩
              have hS22 := Lib.hid (And.intro (hS0.out.1.trans hv22) (hS0.out.2.trans hf22))
              have HWr22 := Lib.hid hw22
              clear hv22 hw22 hf22
              refine hK.out _ _ hS22 (fun _ => ?_)
              clear hK K
              try simp only [Act.put, List.setIfInBounds_toArray, List.set_cons_zero, List.set_cons_succ]
              refine wpAnyH_ready (rs := [6]) (by kernel_rfl) (by simp) (AllReadyH.cons rfl (fun K hK => ?_) AllReadyH.nil)
              go_simp
              refine (wnum_any _ (wb + 1) wb (BJ ++ encN xn) yn HWr22.out (by omega) (by have h1 := encN_le xn; simp only [List.length_append]; omega)).mono ?_
              rintro e wv23 ⟨rfl, hw23, hv23, hf23⟩
              have hS23 := Lib.hid (And.intro (hS22.out.1.trans hv23) (hS22.out.2.trans hf23))
              have HWr23 := Lib.hid hw23
              clear hv23 hw23 hf23
              refine hK.out _ _ hS23 (fun _ => ?_)
              clear hK K
              try simp only [Act.put, List.setIfInBounds_toArray, List.set_cons_zero, List.set_cons_succ]
              refine wpAnyH_done (by kernel_rfl) ?_ _
              have HWe : Hid (IsWr wv23 (wb + 1) wb (L6 ++ (refs.take (j + 1)).flatMap encRf)) := Lib.hid (by
                have := HWr23.out
                rw [HBJ.out] at this
                rw [Htj.out]
                unfold encRf
                dsimp only
                simp only [List.append_assoc, Int.toNat_natCast] at this ⊢
                exact this)
              have HbF := Lib.hid (HbX.out.trans hS23.out.1)
              go_wp2_with fail
              go_roundw
              case rel => exact ⟨j + 1, by omega, by go_num, HWe.out, HbF.out⟩
              case measure => simp [intOf]; omega
            · obtain rfl : j = rln := by omega
              have HWe : Hid (IsWr wq (wb + 1) wb (PL ++ (ad.take (k + 1)).flatMap fun p => encP (p.1, p.2.1))) := Lib.hid (by
                have := Hwr.out
                rw [HL6.out, HL5.out, HL4.out, HL3.out, HBL.out, List.take_of_length_le (l := refs) (by rw [← Hrln.out]; exact Nat.le_refl _), Hrln.out] at this
                rw [Htk.out]
                have e : encP ((lvn : Int), (⟨(mzn : Int), (mnn : Int), ka, kb, refs⟩ : Mt)) = (((((encN lvn ++ encN mzn) ++ encN mnn) ++ txtB (encK ka)) ++ txtB (encK kb)) ++ encN refs.length) ++ refs.flatMap encRf := rfl
                rw [e]
                simp only [List.append_assoc] at this ⊢
                exact this)
              go_wp2_with fail
              go_roundw
              case rel => exact ⟨k + 1, by omega, by go_num, HWe.out, Hb.out⟩
              case measure => simp [intOf]; omega
        · obtain rfl : k = na := by omega
          have HWf : Hid (IsWr wo (wb + 1) wb (encR rc)) := Lib.hid (by
            have := Hwr.out
            rw [HPL.out, HP10.out, HP9.out, HP8.out, List.take_of_length_le (by rw [← Hna.out]; exact Nat.le_refl _), Hwn.out, Hna.out, List.nil_append] at this
            rw [Hrc.out]
            exact this)
          have HWb := Lib.hid (wbytes_any wo (wb + 1) wb _ HWf.out (by have := encR_le HI.out; omega) (encR_pos rc))
          have Hwo := Lib.hid (Hb3.out.trans (Hb.out.mono Hwle.out))
          go_wp2_with fail
          refine HWb.out.mono ?_
          rintro e w12 ⟨v12, rfl, hown12, hb12⟩
          have Ho12 := Lib.hid (own_mono hown12 Hwo.out.size)
          have Hb12 := Lib.hid (Hwo.out.trans (hb12.mono Hwo.out.size))
          clear hown12 hb12 HWb
          go_wp2_with fail
          go_ret2
          exact ⟨.inr ⟨Hok.out, _, rfl, Ho12.out⟩, Hb12.out⟩
end Go.Proofs.Ythjjelomlgmllaa.Tithe
