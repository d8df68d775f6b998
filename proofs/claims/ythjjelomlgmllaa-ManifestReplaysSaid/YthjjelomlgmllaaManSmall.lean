/- The law's small and ints: walked (printed by mkmansmall.py). -/
import Derived.Test.YthjjelomlgmllaaManList
import Derived.Test.YthjjelomlgmllaaManChk
import Derived.Test.YthjjelomlgmllaaLevAppI
namespace Go.Proofs.Ythjjelomlgmllaa.Tithe
open Go.RowKit Go.Sort Go.Shelf
set_option linter.unusedVariables false
set_option linter.unusedSimpArgs false
set_option maxRecDepth 100000
def smPl (p : Int × Mr) : Bool := decide (p.2.1.refs.length ≤ 70) && decide (p.2.1.a.u.size ≤ 200) && decide (p.2.1.b.u.size ≤ 200)
def smallR (ls : List Int) (ad : List (Int × Mr)) (dr : List Int) : Bool := ad.all smPl && (decide (ls.length ≤ 70) && decide (ad.length ≤ 70) && decide (dr.length ≤ 70))
theorem smallR_is {ls dr : List Int} {ad : List (Int × Mr)} (h : smallR ls ad dr = true) : (∀ p ∈ ad, p.2.1.refs.length ≤ 70 ∧ p.2.1.a.u.size ≤ 200 ∧ p.2.1.b.u.size ≤ 200) ∧ ls.length ≤ 70 ∧ ad.length ≤ 70 ∧ dr.length ≤ 70 := by
  unfold smallR at h
  simp only [Bool.and_eq_true, decide_eq_true_eq, List.all_eq_true] at h
  refine ⟨fun p hp => ?_, h.2.1.1, h.2.1.2, h.2.2⟩
  have := h.1 p hp
  unfold smPl at this
  simp only [Bool.and_eq_true, decide_eq_true_eq] at this
  exact ⟨this.1.1, this.1.2, this.2⟩
attribute [local go_sem] Oper.semAt_some
set_option maxHeartbeats 6400000 in
theorem small16_any (wh : Bool) (s : Int) (vl va vd : Value) (ls : List Int) (ad : List (Int × Mr)) (dr : List Int) (w : World) (hl : IsZs w vl ls) (hd : IsZs w vd dr) (ha : IsPl w va ad) :
    Calls Try.prog 9 #[.agg #[.bool wh, .int .i64 s, vl, va, vd]] w fun e w' => e = .returned (.bool (smallR ls ad dr)) ∧ Below w.heap.size w w' := by
  obtain ⟨E, hE⟩ : ∃ E, E = smallR ls ad dr := ⟨_, rfl⟩
  rw [← hE]
  have HE1 : Hid (∀ k x, ad[k]? = some x → smPl x = false → E = false) := Lib.hid (fun k x hx hf => by
    rw [hE]; unfold smallR
    rw [show ad.all smPl = false from List.all_eq_false.2 ⟨x, List.mem_of_getElem? hx, by rw [hf]; simp⟩, Bool.false_and])
  obtain ⟨la, lc, rfl, -, -, -⟩ := id hl
  obtain ⟨da, dc, rfl, -, -, -⟩ := id hd
  obtain ⟨aa, ac, rfl, -, -, -⟩ := id ha.1
  obtain ⟨-, -, -, hax⟩ := ha.1.at
  obtain ⟨nl, hnl⟩ : ∃ q, q = ls.length := ⟨_, rfl⟩
  obtain ⟨nd, hnd⟩ : ∃ q, q = dr.length := ⟨_, rfl⟩
  obtain ⟨na, hna⟩ : ∃ q, q = ad.length := ⟨_, rfl⟩
  have HE2 : Hid ((∀ k x, k < na → ad[k]? = some x → smPl x = true) → E = (decide (nl ≤ 70) && decide (na ≤ 70) && decide (nd ≤ 70))) := Lib.hid (fun h => by
    rw [hE, hnl, hna, hnd]; unfold smallR
    rw [show ad.all smPl = true from List.all_eq_true.2 (fun x hx => by
      obtain ⟨k, hk, rfl⟩ := List.getElem_of_mem hx
      exact h k _ (by rw [hna]; exact hk) (List.getElem?_eq_getElem hk)), Bool.true_and])
  have hmx : na ≤ maxLen := by rw [hna]; exact Nat.le_trans ha.1.at.2.1 ha.1.at.2.2.1
  have Hna := Lib.hid hna
  rw [← hnl, ← hnd]
  rw [← hna] at hax ⊢
  have Hax := Lib.hid hax
  have HA := Lib.hid ha
  clear hE hl hd ha hax hnl hnd hna
  unfold maxLen at hmx
  go_enter Try.func9, Try.ntmps9
  have hA1 : Below w.heap.size w (w.alloc (.cells #[.bool wh, .int .i64 s, .slice la nl lc, .slice aa na ac, .slice da nd dc] 27)) := (Below.refl _ _).alloc (Nat.le_refl _) _
  have HK := Lib.hid (blk_of_alloc w (.cells #[.bool wh, .int .i64 s, .slice la nl lc, .slice aa na ac, .slice da nd dc] 27))
  have HB := Lib.hid hA1
  obtain ⟨rb, hrb⟩ : ∃ q, q = w.heap.size := ⟨_, rfl⟩
  rw [← hrb] at HK
  have Hrb := Lib.hid hrb
  clear hA1 hrb
  go_upto_region 1 with fail
  rw [← Hrb.out]
  generalize w.alloc (.cells #[.bool wh, .int .i64 s, .slice la nl lc, .slice aa na ac, .slice da nd dc] 27) = W at *
  have b3 : W.cell? ⟨rb, 3, none⟩ = some (.slice aa na ac) := by rw [cell_blkR HK.out]; rfl
  go_wp2_with fail
  go_loopw [9] (fun iv wr => ∃ k : Nat, k ≤ na ∧ iv = .int .i64 k ∧ (∀ j x, j < k → ad[j]? = some x → smPl x = true) ∧ Below w.heap.size w wr ∧ wr.heap[rb]? = some (.cells #[.bool wh, .int .i64 s, .slice la nl lc, .slice aa na ac, .slice da nd dc] 27 (0, 0))) (fun i _ => na - (intOf i).toNat)
  case atStart => exact ⟨0, Nat.zero_le _, rfl, fun j x hj => absurd hj (by omega), HB.out, HK.out⟩
  case round =>
    obtain ⟨k, hk, rfl, hs, hb, hr⟩ := hrel
    obtain ⟨wo, rfl⟩ : ∃ wo : World, wo = wr := ⟨_, rfl⟩
    have Hs := Lib.hid hs
    have Hb := Lib.hid hb
    have Hr := Lib.hid hr
    clear hs hb hr b3
    by_cases hkn : k < na
    · have hlt : (k : Int) < (na : Int) := by omega
      obtain ⟨b, off, rfl, hcell⟩ := Hax.out (by omega)
      obtain ⟨⟨lv, ⟨⟨mz, mn, ka, kb, refs⟩, vr⟩⟩, hzk⟩ : ∃ z, ad[k]? = some z := ⟨_, List.getElem?_eq_getElem (by rw [← Hna.out]; exact hkn)⟩
      have Hzk := Lib.hid hzk
      have hrr := HA.out.2 _ (List.mem_of_getElem? hzk)
      dsimp only at hrr
      obtain ⟨ra, rcp, rfl, -, -, -⟩ := id hrr
      obtain ⟨c0, c1, c2, c3, c4, c5, c6, c7, c8, c9⟩ := IsPl.row (w := wo) (fun i x hi y z hz => (Hb.out.cell (block_lt_of_cell (hcell i x hi y z hz))).trans (hcell i x hi y z hz)) hzk
      dsimp only at c0 c1 c2 c3 c4 c5 c6 c7 c8 c9
      obtain ⟨rn, hrn⟩ : ∃ q, q = refs.length := ⟨_, rfl⟩
      have Hsm : Hid (smPl (lv, (⟨mz, mn, ka, kb, refs⟩, .slice ra rn rcp)) = (decide (rn ≤ 70) && decide (ka.u.size ≤ 200) && decide (kb.u.size ≤ 200))) := Lib.hid (by rw [hrn]; rfl)
      rw [← hrn] at c9 Hzk
      have HEk := Lib.hid (HE1.out k _ Hzk.out)
      have hA2 : Below wo.heap.size wo (wo.alloc (.cells #[.int .i64 lv, .int .i64 mz, .int .i64 mn, .string ka.u, .int .i64 ka.s, .int .i64 ka.k, .string kb.u, .int .i64 kb.s, .int .i64 kb.k, .slice ra rn rcp] 80)) := (Below.refl _ _).alloc (Nat.le_refl _) _
      have HP := Lib.hid (blk_of_alloc wo (.cells #[.int .i64 lv, .int .i64 mz, .int .i64 mn, .string ka.u, .int .i64 ka.s, .int .i64 ka.k, .string kb.u, .int .i64 kb.s, .int .i64 kb.k, .slice ra rn rcp] 80))
      have HB2 := Lib.hid (Hb.out.trans (hA2.mono Hb.out.size))
      have HR2 := Lib.hid (blk_bels hA2 Hr.out)
      obtain ⟨pb, hpb⟩ : ∃ q, q = wo.heap.size := ⟨_, rfl⟩
      rw [← hpb] at HP
      have Hpb := Lib.hid hpb
      clear hzk hrr hcell hrn hA2 hpb
      go_upto_region 4 with fail
      rw [← Hpb.out]
      generalize wo.alloc (.cells #[.int .i64 lv, .int .i64 mz, .int .i64 mn, .string ka.u, .int .i64 ka.s, .int .i64 ka.k, .string kb.u, .int .i64 kb.s, .int .i64 kb.k, .slice ra rn rcp] 80) = W2 at *
      have p9 : W2.cell? ⟨pb, 9, none⟩ = some (.slice ra rn rcp) := by rw [cell_blkR HP.out]; rfl
      have p3 : W2.cell? ⟨pb, 3, none⟩ = some (.string ka.u) := by rw [cell_blkR HP.out]; rfl
      have p6 : W2.cell? ⟨pb, 6, none⟩ = some (.string kb.u) := by rw [cell_blkR HP.out]; rfl
      clear c0 c1 c2 c3 c4 c5 c6 c7 c8 c9
      by_cases h1 : rn ≤ 70
      rotate_left
      · have d1 : decide ((70 : Int) < (rn : Int)) = true := decide_eq_true (by omega)
        have d2 : decide ((rn : Int) > 70) = true := decide_eq_true (by omega)
        have Hf := Lib.hid (HEk.out (by rw [Hsm.out, decide_eq_false h1]; rfl))
        go_wp2_with fail
        go_ret
        exact ⟨by rw [Hf.out]; rfl, HB2.out⟩
      have d1 : decide ((70 : Int) < (rn : Int)) = false := decide_eq_false (by omega)
      have d2 : decide ((rn : Int) > 70) = false := decide_eq_false (by omega)
      by_cases h2 : ka.u.size ≤ 200
      rotate_left
      · have d3 : decide ((200 : Int) < (ka.u.size : Int)) = true := decide_eq_true (by omega)
        have d4 : decide ((ka.u.size : Int) > 200) = true := decide_eq_true (by omega)
        have Hf := Lib.hid (HEk.out (by rw [Hsm.out, decide_eq_false h2]; simp))
        go_wp2_with fail
        go_ret
        exact ⟨by rw [Hf.out]; rfl, HB2.out⟩
      have d3 : decide ((200 : Int) < (ka.u.size : Int)) = false := decide_eq_false (by omega)
      have d4 : decide ((ka.u.size : Int) > 200) = false := decide_eq_false (by omega)
      by_cases h3 : kb.u.size ≤ 200
      rotate_left
      · have d5 : decide ((200 : Int) < (kb.u.size : Int)) = true := decide_eq_true (by omega)
        have d6 : decide ((kb.u.size : Int) > 200) = true := decide_eq_true (by omega)
        have Hf := Lib.hid (HEk.out (by rw [Hsm.out, decide_eq_false h3]; simp))
        go_wp2_with fail
        go_ret
        exact ⟨by rw [Hf.out]; rfl, HB2.out⟩
      have d5 : decide ((200 : Int) < (kb.u.size : Int)) = false := decide_eq_false (by omega)
      have d6 : decide ((kb.u.size : Int) > 200) = false := decide_eq_false (by omega)
      have Hok : Hid (smPl (lv, (⟨mz, mn, ka, kb, refs⟩, .slice ra rn rcp)) = true) := Lib.hid (by rw [Hsm.out, decide_eq_true h1, decide_eq_true h2, decide_eq_true h3]; rfl)
      go_wp2_with fail
      go_roundw
      case rel =>
        refine ⟨k + 1, by omega, by go_num, fun j y hj hy => ?_, HB2.out, HR2.out⟩
        by_cases e : j = k
        · subst e
          have := hy.symm.trans Hzk.out
          injection this with this
          rw [this]; exact Hok.out
        · exact Hs.out j y (by omega) hy
      case measure => simp [intOf]; omega
    · have hlt : ¬ (k : Int) < (na : Int) := by omega
      obtain rfl : k = na := by omega
      have HEf := Lib.hid (HE2.out (fun j x hj hx => Hs.out j x hj hx))
      have b2 : wo.cell? ⟨rb, 2, none⟩ = some (.slice la nl lc) := by rw [cell_blkR Hr.out]; rfl
      have b3 : wo.cell? ⟨rb, 3, none⟩ = some (.slice aa k ac) := by rw [cell_blkR Hr.out]; rfl
      have b4 : wo.cell? ⟨rb, 4, none⟩ = some (.slice da nd dc) := by rw [cell_blkR Hr.out]; rfl
      by_cases h1 : nl ≤ 70
      rotate_left
      · have d1 : decide ((nl : Int) ≤ 70) = false := decide_eq_false (by omega)
        have Hf : Hid (E = false) := Lib.hid (by rw [HEf.out, decide_eq_false h1]; rfl)
        go_wp2_with fail
        go_ret
        exact ⟨by rw [Hf.out]; rfl, Hb.out⟩
      have d1 : decide ((nl : Int) ≤ 70) = true := decide_eq_true (by omega)
      by_cases h2 : k ≤ 70
      rotate_left
      · have d2 : decide ((k : Int) ≤ 70) = false := decide_eq_false (by omega)
        have Hf : Hid (E = false) := Lib.hid (by rw [HEf.out, decide_eq_false h2]; simp)
        go_wp2_with fail
        go_ret
        exact ⟨by rw [Hf.out]; rfl, Hb.out⟩
      have d2 : decide ((k : Int) ≤ 70) = true := decide_eq_true (by omega)
      by_cases h3 : nd ≤ 70
      rotate_left
      · have d3 : decide ((nd : Int) ≤ 70) = false := decide_eq_false (by omega)
        have Hf : Hid (E = false) := Lib.hid (by rw [HEf.out, decide_eq_false h3]; simp)
        go_wp2_with fail
        go_ret
        exact ⟨by rw [Hf.out]; rfl, Hb.out⟩
      have d3 : decide ((nd : Int) ≤ 70) = true := decide_eq_true (by omega)
      have Hf : Hid (E = true) := Lib.hid (by rw [HEf.out, decide_eq_true h1, decide_eq_true h2, decide_eq_true h3]; rfl)
      go_wp2_with fail
      go_ret
      exact ⟨by rw [Hf.out]; rfl, Hb.out⟩
set_option maxHeartbeats 6400000 in
theorem ints_any (va vb : Value) (l m : List Int) (w : World) (ha : IsZs w va l) (hb : IsZs w vb m) :
    Calls Try.prog 18 #[va, vb] w fun e w' => e = .returned (.bool (decide (l = m))) ∧ Below w.heap.size w w' := by
  obtain ⟨aa, ac, rfl, -, -, -⟩ := id ha
  obtain ⟨ba, bc, rfl, -, -, -⟩ := id hb
  obtain ⟨-, hc0, hc1, hax⟩ := ha.at
  have hmx : l.length ≤ maxLen := Nat.le_trans hc0 hc1
  clear hc0 hc1
  obtain ⟨-, -, -, hbx⟩ := hb.at
  obtain ⟨E, hE⟩ : ∃ E, E = decide (l = m) := ⟨_, rfl⟩
  rw [← hE]
  obtain ⟨n, hn⟩ : ∃ q, q = l.length := ⟨_, rfl⟩
  obtain ⟨k, hk⟩ : ∃ q, q = m.length := ⟨_, rfl⟩
  have HL : Hid (n ≠ k → E = false) := Lib.hid (fun h => by rw [hE]; exact decide_eq_false (fun e => h (by rw [hn, hk, e])))
  have HX : Hid (∀ (i : Nat) (x y : Int), l[i]? = some x → m[i]? = some y → x ≠ y → E = false) := Lib.hid (fun i x y hx hy hne => by
    rw [hE]; refine decide_eq_false (fun e => hne ?_)
    rw [e, hy] at hx
    injection hx with hx
    exact hx.symm)
  have HY : Hid (n = k → (∀ i, i < n → l[i]? = m[i]?) → E = true) := Lib.hid (fun h h2 => by
    rw [hE]
    refine decide_eq_true (List.ext_getElem? fun i => ?_)
    rcases Nat.lt_or_ge i n with q | q
    · exact h2 i q
    · rw [List.getElem?_eq_none (by omega), List.getElem?_eq_none (by omega)])
  have Hn := Lib.hid hn
  have Hk := Lib.hid hk
  rw [← hn] at hax hmx ⊢
  rw [← hk] at hbx ⊢
  have Hax := Lib.hid hax
  have Hbx := Lib.hid hbx
  unfold maxLen at hmx
  clear ha hb hax hbx hE hn hk
  go_enter Try.func18, Try.ntmps18
  by_cases h1 : n = k
  rotate_left
  · have d1 : ¬ (n : Int) = (k : Int) := by omega
    have d2 : decide ((n : Int) = (k : Int)) = false := decide_eq_false d1
    have Hf := Lib.hid (HL.out h1)
    go_wp2_with fail
    go_ret
    exact ⟨by rw [Hf.out]; rfl, Below.refl _ _⟩
  subst h1
  go_wp2_with fail
  go_loopw [13] (fun iv wr => ∃ i : Nat, i ≤ n ∧ iv = .int .i64 i ∧ (∀ j, j < i → l[j]? = m[j]?) ∧ Below w.heap.size w wr) (fun i _ => n - (intOf i).toNat)
  case atStart => exact ⟨0, Nat.zero_le _, rfl, fun j hj => absurd hj (by omega), Below.refl _ _⟩
  case round =>
    obtain ⟨i, hi, rfl, hs, hb⟩ := hrel
    obtain ⟨wo, rfl⟩ : ∃ wo : World, wo = wr := ⟨_, rfl⟩
    have Hs := Lib.hid hs
    have Hb := Lib.hid hb
    clear hs hb
    by_cases hin : i < n
    · have hlt : (i : Int) < (n : Int) := by omega
      obtain ⟨b1, o1, rfl, hc1⟩ := Hax.out (by omega)
      obtain ⟨b2, o2, rfl, hc2⟩ := Hbx.out (by omega)
      obtain ⟨x, hx⟩ : ∃ x, l[i]? = some x := ⟨_, List.getElem?_eq_getElem (by rw [← Hn.out]; exact hin)⟩
      obtain ⟨y, hy⟩ : ∃ x, m[i]? = some x := ⟨_, List.getElem?_eq_getElem (by rw [← Hk.out]; exact hin)⟩
      have c1 := IsZs.row hc1 hx
      have c2 := IsZs.row hc2 hy
      have e1 := (Hb.out.cell (block_lt_of_cell c1)).trans c1
      have e2 := (Hb.out.cell (block_lt_of_cell c2)).trans c2
      have Hx := Lib.hid hx
      have Hy := Lib.hid hy
      clear hx hy c1 c2 hc1 hc2
      by_cases hq : x = y
      · subst hq
        have hd : decide (x = x) = true := decide_eq_true rfl
        have Hs2 : Hid (∀ j, j < i + 1 → l[j]? = m[j]?) := Lib.hid (fun j hj => by
          by_cases e : j = i
          · rw [e, Hx.out, Hy.out]
          · exact Hs.out j (by omega))
        go_upto_region 6 with fail
        go_still (by kernel_rfl)
        go_wp2_with fail
        go_roundw
        case rel => exact ⟨i + 1, by omega, by go_num, Hs2.out, Hb.out.drew⟩
        case measure => simp [intOf]; omega
      · have hd : decide (x = y) = false := decide_eq_false hq
        have Hf := Lib.hid (HX.out i x y Hx.out Hy.out hq)
        go_upto_region 6 with fail
        go_still (by kernel_rfl)
        go_wp2_with fail
        go_ret
        exact ⟨by rw [Hf.out]; rfl, Hb.out.drew⟩
    · have hlt : ¬ (i : Int) < (n : Int) := by omega
      obtain rfl : i = n := by omega
      have Hf := Lib.hid (show E = true by first | exact HY.out rfl Hs.out | exact HY.out trivial Hs.out)
      go_wp2_with fail
      go_ret
      exact ⟨by rw [Hf.out]; rfl, Hb.out⟩
end Go.Proofs.Ythjjelomlgmllaa.Tithe
