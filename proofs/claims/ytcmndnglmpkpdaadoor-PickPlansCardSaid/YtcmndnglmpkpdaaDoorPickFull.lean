/- THE LAW PickFull: walked. -/
import Derived.Test.YtcmndnglmpkpdaaDoorPickAwake
namespace Go.Proofs.YtcmndnglmpkpdaaDoor.Tithe
open Go.RowKit Go.Sort Go.Shelf
set_option linter.unusedVariables false
set_option linter.unusedSimpArgs false
set_option maxRecDepth 100000
/-- the first level from m on that is too full -/
def fstP (l : Nat → List Mr) (m : Nat) : Int := if m ≤ 0 ∧ capP 0 < (l 0).length then 0 else if m ≤ 1 ∧ capP 1 < (l 1).length then 1 else if m ≤ 2 ∧ capP 2 < (l 2).length then 2 else -1
theorem fstP_yes {l : Nat → List Mr} {n : Nat} (hn : n < 3) (h : capP n < (l n).length) : fstP l n = n := by
  unfold fstP
  match n, hn with
  | 0, _ => rw [if_pos ⟨by omega, h⟩]; rfl
  | 1, _ => rw [if_neg (by omega), if_pos ⟨by omega, h⟩]; rfl
  | 2, _ => rw [if_neg (by omega), if_neg (by omega), if_pos ⟨by omega, h⟩]; rfl
theorem fstP_no {l : Nat → List Mr} {n : Nat} (hn : n < 3) (h : ¬ capP n < (l n).length) : fstP l n = fstP l (n + 1) := by
  unfold fstP
  match n, hn with
  | 0, _ => simp [h]
  | 1, _ => simp [h]
  | 2, _ => simp [h]
theorem fstP_3 (l : Nat → List Mr) {m : Nat} (hm : 3 ≤ m) : fstP l m = -1 := by
  unfold fstP
  rw [if_neg (by omega), if_neg (by omega), if_neg (by omega)]
theorem fstP_full (l : Nat → List Mr) : fstP l 0 = match fullN l with | some n => (n : Int) | none => -1 := by
  unfold fstP fullN
  by_cases h0 : capP 0 < (l 0).length
  · rw [if_pos ⟨by omega, h0⟩, if_pos h0]; rfl
  · rw [if_neg (fun q => h0 q.2), if_neg h0]
    by_cases h1 : capP 1 < (l 1).length
    · rw [if_pos ⟨by omega, h1⟩, if_pos h1]; rfl
    · rw [if_neg (fun q => h1 q.2), if_neg h1]
      by_cases h2 : capP 2 < (l 2).length
      · rw [if_pos ⟨by omega, h2⟩, if_pos h2]; rfl
      · rw [if_neg (fun q => h2 q.2), if_neg h2]
attribute [local go_sem] Oper.semAt_some
set_option maxHeartbeats 6400000 in
theorem pickFull_walk (v : Value) (l : List Ed) (w : World) (h : IsEd w v l) (ht : TabOk w) :
    Calls Tryd.prog 3 #[v] w fun e w' => e = .returned (.bool true) ∧ Below w.heap.size w w' := by
  have Hp := Lib.hid (play17_any v l w h)
  have Ht := Lib.hid ht
  clear h ht
  go_enter Tryd.func3, Tryd.ntmps3
  go_wp2_with fail
  refine Hp.out.mono ?_
  rintro e w1 q
  have q := q.out
  unfold PkOut at q
  cases hsm : smallB l with
  | false =>
    rw [hsm, if_neg (by decide)] at q
    obtain ⟨a0, n0, c0, a1, n1, c1, a2, n2, c2, a3, n3, c3, p, rfl, hb⟩ := q
    have Hb := Lib.hid (hb.alloc hb.size (.cells #[.slice a0 n0 c0, .slice a1 n1 c1, .slice a2 n2 c2, .slice a3 n3 c3] 26))
    have Ht2 := Lib.hid (Ht.out.below Hb.out)
    clear hb hsm Hp
    go_wp2_with fail
    refine (awake17_any _ Ht2.out).mono ?_
    rintro e w2 ⟨rfl, hb2⟩
    have Hb2 := Lib.hid (Hb.out.trans (hb2.mono Hb.out.size))
    clear hb2
    go_wp2_with fail
    go_ret
    exact ⟨rfl, Hb2.out⟩
  | true =>
    rw [hsm, if_pos rfl] at q
    obtain ⟨U, X, xb, rfl, hxb, hU, hX, heU, heX, hsx, hb⟩ := q
    have HPk := Lib.hid (playP_ok hsm l.length (Nat.le_refl _))
    have h40 := (smallB_ed hsm).2
    have hT := lvS_tabs HPk.out.1 heU
    obtain ⟨va0, vn0, vc0, va1, vn1, vc1, va2, vn2, vc2, va3, vn3, vc3, hc⟩ := isVn_agg' hU
    have Hc := Lib.hid hc
    rw [hc]
    have HB := Lib.hid (hb.alloc hb.size (.cells #[.slice va0 vn0 vc0, .slice va1 vn1 vc1, .slice va2 vn2 vc2, .slice va3 vn3 vc3] 26))
    have HA := Lib.hid ((Below.refl w1.heap.size w1).alloc (Nat.le_refl _) (.cells #[.slice va0 vn0 vc0, .slice va1 vn1 vc1, .slice va2 vn2 vc2, .slice va3 vn3 vc3] 26))
    have HV := Lib.hid (blk_of_alloc w1 (.cells #[.slice va0 vn0 vc0, .slice va1 vn1 vc1, .slice va2 vn2 vc2, .slice va3 vn3 vc3] 26))
    have HU := Lib.hid (hU.below HA.out)
    have HT : Hid ((tabs U.l 4).length ≤ 100000 ∧ ∀ p ∈ tabs U.l 4, p.2.1.refs.length ≤ 1000000) := Lib.hid ⟨by have := hT.1; omega, fun p hp => by have := (hT.2 p hp).1; omega⟩
    obtain ⟨vb, hvb⟩ : ∃ vb, vb = w1.heap.size := ⟨_, rfl⟩
    have Hvb := Lib.hid hvb
    rw [← hvb] at HV
    clear hsm hxb hU hX heU heX hsx hb h40 hT hc hvb Hp
    go_upto_region 4 with fail
    rw [← Hvb.out]
    generalize w1.alloc (.cells #[.slice va0 vn0 vc0, .slice va1 vn1 vc1, .slice va2 vn2 vc2, .slice va3 vn3 vc3] 26) = W3 at *
    clear Hvb HA
    have Ht3 := Lib.hid (Ht.out.below HB.out)
    go_wp2_with fail
    go_loop [6, 7] (fun fv nv => ∃ m : Nat, m ≤ 4 ∧ nv = .int .i64 ((m : Int) - 1) ∧ fv = .int .i64 (fstP U.l m)) (fun _ nv => (intOf nv + 1).toNat)
    case atStart => exact ⟨4, Nat.le_refl _, rfl, by rw [fstP_3 U.l (by omega)]⟩
    case round =>
      obtain ⟨m, hm, rfl, rfl⟩ := hrel
      by_cases hm0 : 0 < m
      · obtain ⟨n, rfl⟩ : ∃ n, m = n + 1 := ⟨m - 1, by omega⟩
        have hN := most_any (n : Int) W3 Ht3.out
        rw [show (((n + 1 : Nat) : Int) - 1) = (n : Int) by omega]
        have hni : (n : Int) < 4 := by omega
        have hn0 : (0 : Int) ≤ (n : Int) := by omega
        obtain ⟨sa, sc, hsv⟩ := isMr_slice (HU.out n (by omega))
        obtain ⟨K, hK⟩ : ∃ K, K = (U.l n).length := ⟨_, rfl⟩
        have hcn : W3.cell? ⟨vb, n, none⟩ = some (.slice sa K sc) := (cell_of_blk HV.out n).trans (by rw [← Hc.out, vn_cell U (by omega), hsv, hK])
        by_cases hn3 : n < 3
        · rw [show mostP (n : Int) = (capP n : Int) by unfold mostP; rw [if_neg (by omega), Int.toNat_natCast]] at hN
          have HN := Lib.hid hN
          have hc0 : (0 : Int) ≤ (capP n : Int) := by omega
          have hd0 : decide ((capP n : Int) ≥ 0) = true := decide_eq_true (by omega)
          by_cases hbig : capP n < K
          · have HF := Lib.hid (fstP_yes (l := U.l) hn3 (by rw [← hK]; exact hbig))
            have hd1 : decide ((K : Int) > (capP n : Int)) = true := decide_eq_true (by omega)
            have hd2 : decide ((capP n : Int) < (K : Int)) = true := decide_eq_true (by omega)
            have hd3 : decide (capP n < K) = true := decide_eq_true (by omega)
            clear hK hsv hN
            go_wp2_with fail
            refine HN.out.mono ?_
            rintro e wx ⟨rfl, rfl⟩
            go_wp2_with fail
            go_round
            case rel => exact ⟨n, by omega, rfl, by rw [HF.out]⟩
            case measure => simp [intOf]
          · have HF := Lib.hid (fstP_no (l := U.l) hn3 (by rw [← hK]; exact hbig))
            have hd1 : decide ((K : Int) > (capP n : Int)) = false := decide_eq_false (by omega)
            have hd2 : decide ((capP n : Int) < (K : Int)) = false := decide_eq_false (by omega)
            have hd3 : decide (capP n < K) = false := decide_eq_false (by omega)
            clear hK hsv hN
            go_wp2_with fail
            refine HN.out.mono ?_
            rintro e wx ⟨rfl, rfl⟩
            go_wp2_with fail
            go_round
            case rel => exact ⟨n, by omega, rfl, by rw [HF.out]⟩
            case measure => simp [intOf]
        · rw [show mostP (n : Int) = -1 by unfold mostP; rw [if_pos (by omega)]] at hN
          have HN := Lib.hid hN
          have HF : Hid (fstP U.l n = fstP U.l (n + 1)) := Lib.hid (by rw [fstP_3 U.l (by omega), fstP_3 U.l (by omega)])
          clear hK hsv hN
          go_wp2_with fail
          refine HN.out.mono ?_
          rintro e wx ⟨rfl, rfl⟩
          go_wp2_with fail
          go_round
          case rel => exact ⟨n, by omega, rfl, by rw [HF.out]⟩
          case measure => simp [intOf]
      · obtain rfl : m = 0 := by omega
        have hX := next_any U W3 HU.out HT.out.1 HT.out.2 Ht3.out
        rw [Hc.out] at hX
        have HX := Lib.hid hX
        have HFf := Lib.hid (fstP_full U.l)
        rw [show (((0 : Nat) : Int) - 1) = -1 from rfl]
        have c0 := (cell_of_blk HV.out 0).trans (show _ = some (.slice va0 vn0 vc0) from rfl)
        have c1 := (cell_of_blk HV.out 1).trans (show _ = some (.slice va1 vn1 vc1) from rfl)
        have c2 := (cell_of_blk HV.out 2).trans (show _ = some (.slice va2 vn2 vc2) from rfl)
        have c3 := (cell_of_blk HV.out 3).trans (show _ = some (.slice va3 vn3 vc3) from rfl)
        clear hX
        go_wp2_with fail
        refine HX.out.mono ?_
        rintro e w3 q
        obtain ⟨cs, b, rfl, ho, hb3⟩ := q.out
        have Hb3 := Lib.hid (HB.out.trans (hb3.mono HB.out.size))
        clear q hb3 c0 c1 c2 c3
        cases hf : fullN U.l with
        | none =>
          rw [hf] at ho
          have HFv : Hid (fstP U.l 0 = -1) := Lib.hid (by rw [HFf.out, hf])
          obtain ⟨rfl, ua, un, uc, la, ln, lc, e1, -, -⟩ := ho
          subst e1
          rw [HFv.out]
          obtain ⟨p, hp⟩ : ∃ p, p = Pn.zero := ⟨_, rfl⟩
          rw [← hp]
          clear hf hp
          have Hb4 := Lib.hid (Hb3.out.alloc Hb3.out.size (.cells #[.int .i64 p.frm, .int .i64 p.dest, .slice ua un uc, .slice la ln lc, .string p.upto] 34))
          have Ht4 := Lib.hid (Ht.out.below Hb4.out)
          have hM4 := most_any 4 _ Ht4.out
          have hM1 := most_any (-1) _ Ht4.out
          rw [show mostP 4 = -1 from rfl] at hM4
          rw [show mostP (-1) = -1 from rfl] at hM1
          have HM4 := Lib.hid hM4
          have HM1 := Lib.hid hM1
          clear hM4 hM1
          go_wp2_with fail
          refine HM4.out.mono ?_
          rintro e wx ⟨rfl, rfl⟩
          go_wp2_with fail
          refine HM1.out.mono ?_
          rintro e wx ⟨rfl, rfl⟩
          go_wp2_with fail
          refine (awake17_any _ Ht4.out).mono ?_
          rintro e wz ⟨rfl, hbz⟩
          have Hbz := Lib.hid (Hb4.out.trans (hbz.mono Hb4.out.size))
          clear hbz
          go_wp2_with fail
          go_ret
          exact ⟨rfl, Hbz.out⟩
        | some n =>
          rw [hf] at ho
          have HFv : Hid (fstP U.l 0 = (n : Int)) := Lib.hid (by rw [HFf.out, hf])
          obtain ⟨rfl, ua, un, uc, la, ln, lc, e1, -, -⟩ := ho
          subst e1
          rw [HFv.out, show (planP U.l n).frm = (n : Int) from rfl]
          generalize (planP U.l n).dest = pd at *
          generalize (planP U.l n).upto = pu at *
          clear hf
          have hn0 : (0 : Int) ≤ (n : Int) := by omega
          have Hb4 := Lib.hid (Hb3.out.alloc Hb3.out.size (.cells #[.int .i64 n, .int .i64 pd, .slice ua un uc, .slice la ln lc, .string pu] 34))
          have Ht4 := Lib.hid (Ht.out.below Hb4.out)
          have hM4 := most_any 4 _ Ht4.out
          have hM1 := most_any (-1) _ Ht4.out
          rw [show mostP 4 = -1 from rfl] at hM4
          rw [show mostP (-1) = -1 from rfl] at hM1
          have HM4 := Lib.hid hM4
          have HM1 := Lib.hid hM1
          clear hM4 hM1
          go_wp2_with fail
          refine HM4.out.mono ?_
          rintro e wx ⟨rfl, rfl⟩
          go_wp2_with fail
          refine HM1.out.mono ?_
          rintro e wx ⟨rfl, rfl⟩
          go_wp2_with fail
          refine (awake17_any _ Ht4.out).mono ?_
          rintro e wz ⟨rfl, hbz⟩
          have Hbz := Lib.hid (Hb4.out.trans (hbz.mono Hb4.out.size))
          clear hbz
          go_wp2_with fail
          go_ret
          exact ⟨rfl, Hbz.out⟩
end Go.Proofs.YtcmndnglmpkpdaaDoor.Tithe
