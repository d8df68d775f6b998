/- THE LAW PickFits: walked. -/
import Derived.Test.YtcmndnglmpkpdaaDoorPickAwake
import Derived.Test.YtcmndnglmpkpdaaDoorPickFitsP
namespace Go.Proofs.YtcmndnglmpkpdaaDoor.Tithe
open Go.RowKit Go.Sort Go.Shelf
set_option linter.unusedVariables false
set_option linter.unusedSimpArgs false
set_option maxRecDepth 100000
/-- a plan that is told -/
def FitN (l : Nat → List Mr) (a : Bool) (p : Pn) : Prop := a = true → ∃ n, n < 3 ∧ 0 < (l n).length ∧ p = planP l n
theorem fitN_of {l : Nat → List Mr} {o : Option Nat} {p : Pn} {a : Bool} (h : optP l o = p ∧ o.isSome = a) (ho : ∀ n, o = some n → n < 3 ∧ 0 < (l n).length) : FitN l a p := by
  obtain ⟨rfl, rfl⟩ := h
  intro e
  cases o with
  | none => cases e
  | some n => exact ⟨n, (ho n rfl).1, (ho n rfl).2, rfl⟩
theorem isDz_len {W : World} {a : Option Addr} {n c : Nat} {zs : List Int} (h : IsDz W (.slice a n c) zs) : n = zs.length := by
  obtain ⟨a', c', e, -, -, -⟩ := h
  injection e
theorem isDz_at {W : World} {a : Option Addr} {n c : Nat} {zs : List Int} (h : IsDz W (.slice a n c) zs) (hl : 0 < n) : ∃ b off, a = some ⟨b, off, none⟩ ∧ ∀ (A : World), Below W.heap.size W A → ∀ i x, zs[i]? = some x → A.cell? ⟨b, off + i, none⟩ = some (.int .i64 x) := by
  have hn := isDz_len h
  obtain ⟨-, -, -, hx⟩ := h.at
  obtain ⟨b, off, e, hc⟩ := hx hl
  refine ⟨b, off, e, fun A hA i x hi => IsDz.row1 (w := A) (fun i x hi j y hj => (hA.cell (block_lt_of_cell (hc i x hi j y hj))).trans (hc i x hi j y hj)) hi⟩
attribute [local go_sem] Oper.semAt_some
set_option maxHeartbeats 6400000 in
theorem pickFits_walk (v : Value) (l : List Ed) (w : World) (h : IsEd w v l) (ht : TabOk w) :
    Calls Tryd.prog 5 #[v] w fun e w' => e = .returned (.bool true) ∧ Below w.heap.size w w' := by
  have Hp := Lib.hid (play17_any v l w h)
  have Ht := Lib.hid ht
  clear h ht
  go_enter Tryd.func5, Tryd.ntmps5
  go_wp2_with fail
  refine Hp.out.mono ?_
  rintro e w1 q
  have q := q.out
  unfold PkOut at q
  cases hsm : smallB l with
  | false =>
    rw [hsm, if_neg (by decide)] at q
    obtain ⟨a0, n0, c0, a1, n1, c1, a2, n2, c2, a3, n3, c3, p, rfl, hb⟩ := q
    have Hb := Lib.hid (hb.alloc hb.size (.cells #[.slice a0 n0 c0, .slice a1 n1 c1, .slice a2 n2 c2, .slice a3 n3 c3] 26))
    have Ht2 := Lib.hid (Ht.out.below Hb.out)
    clear hb hsm Hp
    go_wp2_with fail
    refine (awake17_any _ Ht2.out).mono ?_
    rintro e w2 ⟨rfl, hb2⟩
    have Hb2 := Lib.hid (Hb.out.trans (hb2.mono Hb.out.size))
    clear hb2
    go_wp2_with fail
    go_ret
    exact ⟨rfl, Hb2.out⟩
  | true =>
    rw [hsm, if_pos rfl] at q
    obtain ⟨U, X, xb, rfl, hxb, hU, hX, heU, heX, hsx, hb⟩ := q
    have HPk := Lib.hid (playP_ok hsm l.length (Nat.le_refl _))
    have hT := lvS_tabs HPk.out.1 heU
    have Hver := Lib.hid (lvE_ver HPk.out.2 heU)
    obtain ⟨p, hpE⟩ : ∃ p, optP U.l (fullN U.l) = p := ⟨_, rfl⟩
    obtain ⟨a, haE⟩ : ∃ a, (fullN U.l).isSome = a := ⟨_, rfl⟩
    obtain ⟨r, hrE⟩ : ∃ p, optP U.l (pressN U.l) = p := ⟨_, rfl⟩
    obtain ⟨c, hcE⟩ : ∃ a, (pressN U.l).isSome = a := ⟨_, rfl⟩
    have Hpu : Hid (optP U.l (fullN U.l) = p ∧ (fullN U.l).isSome = a) := Lib.hid ⟨hpE, haE⟩
    have Hru : Hid (optP U.l (pressN U.l) = r ∧ (pressN U.l).isSome = c) := Lib.hid ⟨hrE, hcE⟩
    have Hf4 := Lib.hid (fitN_of Hpu.out (fun n e => fullN_len e))
    have Hf5 := Lib.hid (fitN_of Hru.out (fun n e => pressN_len e))
    obtain ⟨va0, vn0, vc0, va1, vn1, vc1, va2, vn2, vc2, va3, vn3, vc3, hc⟩ := isVn_agg' hU
    have Hc := Lib.hid hc
    rw [hc]
    have HB := Lib.hid (hb.alloc hb.size (.cells #[.slice va0 vn0 vc0, .slice va1 vn1 vc1, .slice va2 vn2 vc2, .slice va3 vn3 vc3] 26))
    have HA := Lib.hid ((Below.refl w1.heap.size w1).alloc (Nat.le_refl _) (.cells #[.slice va0 vn0 vc0, .slice va1 vn1 vc1, .slice va2 vn2 vc2, .slice va3 vn3 vc3] 26))
    have HV := Lib.hid (blk_of_alloc w1 (.cells #[.slice va0 vn0 vc0, .slice va1 vn1 vc1, .slice va2 vn2 vc2, .slice va3 vn3 vc3] 26))
    have HU := Lib.hid (hU.below HA.out)
    have HT : Hid ((tabs U.l 4).length ≤ 100000 ∧ ∀ p ∈ tabs U.l 4, p.2.1.refs.length ≤ 1000000) := Lib.hid ⟨by have := hT.1; have h40 := (smallB_ed hsm).2; omega, fun p hp => by have := (hT.2 p hp).1; omega⟩
    obtain ⟨vb, hvb⟩ : ∃ vb, vb = w1.heap.size := ⟨_, rfl⟩
    have Hvb := Lib.hid hvb
    rw [← hvb] at HV
    clear hsm hxb hU hX heU heX hsx hb hT hc hvb Hp hpE haE hrE hcE
    go_upto_region 4 with fail
    rw [← Hvb.out]
    generalize w1.alloc (.cells #[.slice va0 vn0 vc0, .slice va1 vn1 vc1, .slice va2 vn2 vc2, .slice va3 vn3 vc3] 26) = W3 at *
    clear Hvb HA
    have Ht3 := Lib.hid (Ht.out.below HB.out)
    have H3b := Lib.hid (Below.refl W3.heap.size W3)
    have HUn := Lib.hid (fun (A : World) (hA : Below W3.heap.size W3 A) => (show Calls Tryd.prog 11 #[.agg #[.slice va0 vn0 vc0, .slice va1 vn1 vc1, .slice va2 vn2 vc2, .slice va3 vn3 vc3]] A _ from Hc.out ▸ next_any U A (HU.out.below hA) HT.out.1 HT.out.2 (Ht3.out.below hA)))
    have HUp := Lib.hid (fun (A : World) (hA : Below W3.heap.size W3 A) => (show Calls Tryd.prog 13 #[.agg #[.slice va0 vn0 vc0, .slice va1 vn1 vc1, .slice va2 vn2 vc2, .slice va3 vn3 vc3]] A _ from Hc.out ▸ press_any U A (HU.out.below hA) HT.out.1 HT.out.2))
    have HHas := Lib.hid (fun (z : Int) (A : World) (hA : Below W3.heap.size W3 A) => (show Calls Tryd.prog 16 #[.agg #[.slice va0 vn0 vc0, .slice va1 vn1 vc1, .slice va2 vn2 vc2, .slice va3 vn3 vc3], .int .i64 z] A _ from Hc.out ▸ has_any U z A (HU.out.below hA)))
    have HOv := Lib.hid (fun (n : Int) (s g : ByteArray) (A : World) (hA : Below W3.heap.size W3 A) => (show Calls Tryd.prog 17 #[.agg #[.slice va0 vn0 vc0, .slice va1 vn1 vc1, .slice va2 vn2 vc2, .slice va3 vn3 vc3], .int .i64 n, .string s, .string g] A _ from Hc.out ▸ over_any U n s g A (HU.out.below hA) HT.out.1 HT.out.2))
    have Hlev : Hid (∀ n, n < 4 → ∃ sa sc, ∀ (A : World), Below W3.heap.size W3 A → A.cell? ⟨vb, n, none⟩ = some (.slice sa (U.l n).length sc) ∧ IsMr A (.slice sa (U.l n).length sc) (U.l n)) := Lib.hid (fun n hn => by
      obtain ⟨sa, sc, hsv⟩ := isMr_slice (HU.out n hn)
      refine ⟨sa, sc, fun A hA => ⟨(cell_of_blk (blk_bels hA HV.out) n).trans (by rw [← Hc.out, vn_cell U hn, hsv]), ?_⟩⟩
      rw [← hsv]
      exact (HU.out n hn).below hA)
    clear Hc HU HT Ht HPk
    have c0 := (cell_of_blk (blk_bels H3b.out HV.out) 0).trans (show _ = some (.slice va0 vn0 vc0) from rfl)
    have c1 := (cell_of_blk (blk_bels H3b.out HV.out) 1).trans (show _ = some (.slice va1 vn1 vc1) from rfl)
    have c2 := (cell_of_blk (blk_bels H3b.out HV.out) 2).trans (show _ = some (.slice va2 vn2 vc2) from rfl)
    have c3 := (cell_of_blk (blk_bels H3b.out HV.out) 3).trans (show _ = some (.slice va3 vn3 vc3) from rfl)
    have HN4 := Lib.hid (HUn.out _ H3b.out)
    go_wp2_with fail
    refine HN4.out.mono ?_
    rintro e w4 q
    obtain ⟨cs4, b4, rfl, ho4, hb4⟩ := q.out
    obtain ⟨rfl, hp4⟩ := opt_is ho4 Hpu.out.1 Hpu.out.2
    have Hq4 := Lib.hid hp4
    obtain ⟨u4, un4, uc4, l4, ln4, lc4, e4, -, -⟩ := hp4
    subst e4
    obtain ⟨pf4, pd4, pu4, pl4, pt4⟩ := p
    dsimp only
    have HC4 := Lib.hid ((H3b.out.trans (hb4.mono H3b.out.size)).alloc (Nat.le_trans H3b.out.size hb4.size) (.cells #[.int .i64 pf4, .int .i64 pd4, .slice u4 un4 uc4, .slice l4 ln4 lc4, .string pt4] 34))
    have HD4 := Lib.hid (hb4.alloc hb4.size (.cells #[.int .i64 pf4, .int .i64 pd4, .slice u4 un4 uc4, .slice l4 ln4 lc4, .string pt4] 34))
    have HQ4 := Lib.hid (Hq4.out.below ((Below.refl w4.heap.size w4).alloc (Nat.le_refl _) (.cells #[.int .i64 pf4, .int .i64 pd4, .slice u4 un4 uc4, .slice l4 ln4 lc4, .string pt4] 34)))
    have HO4 := Lib.hid (blk_of_alloc w4 (.cells #[.int .i64 pf4, .int .i64 pd4, .slice u4 un4 uc4, .slice l4 ln4 lc4, .string pt4] 34))
    obtain ⟨o4, ho4'⟩ : ∃ o, o = w4.heap.size := ⟨_, rfl⟩
    have Hoe4 := Lib.hid ho4'
    rw [← ho4'] at HO4
    clear q ho4 hb4 ho4' HN4 Hq4 c0 c1 c2 c3
    go_upto_region 5 with fail
    rw [← Hoe4.out]
    generalize w4.alloc (.cells #[.int .i64 pf4, .int .i64 pd4, .slice u4 un4 uc4, .slice l4 ln4 lc4, .string pt4] 34) = W4 at *
    clear Hoe4
    have c0 := (cell_of_blk (blk_bels HC4.out HV.out) 0).trans (show _ = some (.slice va0 vn0 vc0) from rfl)
    have c1 := (cell_of_blk (blk_bels HC4.out HV.out) 1).trans (show _ = some (.slice va1 vn1 vc1) from rfl)
    have c2 := (cell_of_blk (blk_bels HC4.out HV.out) 2).trans (show _ = some (.slice va2 vn2 vc2) from rfl)
    have c3 := (cell_of_blk (blk_bels HC4.out HV.out) 3).trans (show _ = some (.slice va3 vn3 vc3) from rfl)
    have HN5 := Lib.hid (HUp.out _ HC4.out)
    go_wp2_with fail
    refine HN5.out.mono ?_
    rintro e w5 q
    obtain ⟨cs5, b5, rfl, ho5, hb5⟩ := q.out
    obtain ⟨rfl, hp5⟩ := opt_is ho5 Hru.out.1 Hru.out.2
    have Hq5 := Lib.hid hp5
    obtain ⟨u5, un5, uc5, l5, ln5, lc5, e5, -, -⟩ := hp5
    subst e5
    obtain ⟨pf5, pd5, pu5, pl5, pt5⟩ := r
    dsimp only
    have HC5 := Lib.hid ((HC4.out.trans (hb5.mono HC4.out.size)).alloc (Nat.le_trans HC4.out.size hb5.size) (.cells #[.int .i64 pf5, .int .i64 pd5, .slice u5 un5 uc5, .slice l5 ln5 lc5, .string pt5] 34))
    have HD5 := Lib.hid (hb5.alloc hb5.size (.cells #[.int .i64 pf5, .int .i64 pd5, .slice u5 un5 uc5, .slice l5 ln5 lc5, .string pt5] 34))
    have HQ5 := Lib.hid (Hq5.out.below ((Below.refl w5.heap.size w5).alloc (Nat.le_refl _) (.cells #[.int .i64 pf5, .int .i64 pd5, .slice u5 un5 uc5, .slice l5 ln5 lc5, .string pt5] 34)))
    have HO5 := Lib.hid (blk_of_alloc w5 (.cells #[.int .i64 pf5, .int .i64 pd5, .slice u5 un5 uc5, .slice l5 ln5 lc5, .string pt5] 34))
    obtain ⟨o5, ho5'⟩ : ∃ o, o = w5.heap.size := ⟨_, rfl⟩
    have Hoe5 := Lib.hid ho5'
    rw [← ho5'] at HO5
    clear q ho5 hb5 ho5' HN5 Hq5 c0 c1 c2 c3
    go_upto_region 6 with fail
    rw [← Hoe5.out]
    generalize w5.alloc (.cells #[.int .i64 pf5, .int .i64 pd5, .slice u5 un5 uc5, .slice l5 ln5 lc5, .string pt5] 34) = W5 at *
    clear Hoe5
    have HO4' := Lib.hid (blk_bels HD5.out HO4.out)
    have HQ4' := Lib.hid (HQ4.out.below HD5.out)
    clear HO4 HQ4 HC4 HD4 HD5 HUn HUp H3b
    have c0 := (cell_of_blk HO4'.out 0).trans (show _ = some (.int .i64 pf4) from rfl)
    have c1 := (cell_of_blk HO4'.out 1).trans (show _ = some (.int .i64 pd4) from rfl)
    have c2 := (cell_of_blk HO4'.out 2).trans (show _ = some (.slice u4 un4 uc4) from rfl)
    have c3 := (cell_of_blk HO4'.out 3).trans (show _ = some (.slice l4 ln4 lc4) from rfl)
    have c4 := (cell_of_blk HO4'.out 4).trans (show _ = some (.string pt4) from rfl)
    have d0 := (cell_of_blk HO5.out 0).trans (show _ = some (.int .i64 pf5) from rfl)
    have d1 := (cell_of_blk HO5.out 1).trans (show _ = some (.int .i64 pd5) from rfl)
    have d2 := (cell_of_blk HO5.out 2).trans (show _ = some (.slice u5 un5 uc5) from rfl)
    have d3 := (cell_of_blk HO5.out 3).trans (show _ = some (.slice l5 ln5 lc5) from rfl)
    have d4 := (cell_of_blk HO5.out 4).trans (show _ = some (.string pt5) from rfl)
    have HE := Lib.hid ((Below.refl W5.heap.size W5).alloc (Nat.le_refl _) (.cells #[.int .i64 pf4, .int .i64 pd4, .slice u4 un4 uc4, .slice l4 ln4 lc4, .string pt4, .int .i64 pf5, .int .i64 pd5, .slice u5 un5 uc5, .slice l5 ln5 lc5, .string pt5] 34))
    have HS := Lib.hid (blk_of_alloc W5 (.cells #[.int .i64 pf4, .int .i64 pd4, .slice u4 un4 uc4, .slice l4 ln4 lc4, .string pt4, .int .i64 pf5, .int .i64 pd5, .slice u5 un5 uc5, .slice l5 ln5 lc5, .string pt5] 34))
    have HC6 := Lib.hid (HC5.out.alloc HC5.out.size (.cells #[.int .i64 pf4, .int .i64 pd4, .slice u4 un4 uc4, .slice l4 ln4 lc4, .string pt4, .int .i64 pf5, .int .i64 pd5, .slice u5 un5 uc5, .slice l5 ln5 lc5, .string pt5] 34))
    have HQ4 := Lib.hid (HQ4'.out.below HE.out)
    have HQ6 := Lib.hid (HQ5.out.below HE.out)
    obtain ⟨sb, hsb⟩ : ∃ o, o = W5.heap.size := ⟨_, rfl⟩
    have Hsb := Lib.hid hsb
    rw [← hsb] at HS
    clear hsb
    go_upto_region 7 with fail
    rw [← Hsb.out]
    generalize W5.alloc (.cells #[.int .i64 pf4, .int .i64 pd4, .slice u4 un4 uc4, .slice l4 ln4 lc4, .string pt4, .int .i64 pf5, .int .i64 pd5, .slice u5 un5 uc5, .slice l5 ln5 lc5, .string pt5] 34) = W6 at *
    clear c0 c1 c2 c3 c4 d0 d1 d2 d3 d4 Hsb HE HQ4' HQ5 HO4' HO5 HC5
    generalize (Value.tuple #[.agg #[.slice va0 vn0 vc0, .slice va1 vn1 vc1, .slice va2 vn2 vc2, .slice va3 vn3 vc3], .pointer (some ⟨xb, 0, none⟩), .bool true]) = dead1
    generalize (Value.tuple #[.agg #[.int .i64 pf4, .int .i64 pd4, .slice u4 un4 uc4, .slice l4 ln4 lc4, .string pt4], .bool a]) = dead2
    generalize (Value.tuple #[.agg #[.int .i64 pf5, .int .i64 pd5, .slice u5 un5 uc5, .slice l5 ln5 lc5, .string pt5], .bool c]) = dead3
    generalize (Value.agg #[.slice va0 vn0 vc0, .slice va1 vn1 vc1, .slice va2 vn2 vc2, .slice va3 vn3 vc3]) = dead4
    generalize (Value.agg #[.int .i64 pf4, .int .i64 pd4, .slice u4 un4 uc4, .slice l4 ln4 lc4, .string pt4]) = dead5
    generalize (Value.agg #[.int .i64 pf5, .int .i64 pd5, .slice u5 un5 uc5, .slice l5 ln5 lc5, .string pt5]) = dead6
    go_loopw [43] (fun iv wr => ∃ i : Int, (i = 0 ∨ i = 1 ∨ i = 2) ∧ iv = .int .i64 i ∧ Below W6.heap.size W6 wr) (fun iv _ => 2 - (intOf iv).toNat)
    case atStart => exact ⟨0, .inl rfl, rfl, Below.refl _ _⟩
    case round =>
      obtain ⟨wo, rfl⟩ : ∃ wo : World, wo = wr := ⟨_, rfl⟩
      obtain ⟨i, hi, rfl, hb⟩ := hrel
      have Hb := Lib.hid hb
      clear hb
      rcases hi with rfl | rfl | rfl
      · have HS2 := Lib.hid (blk_bels Hb.out HS.out)
        have s0 := (cell_of_blk HS2.out 0).trans (show _ = some (.int .i64 pf4) from rfl)
        have s1 := (cell_of_blk HS2.out 1).trans (show _ = some (.int .i64 pd4) from rfl)
        have s2 := (cell_of_blk HS2.out 2).trans (show _ = some (.slice u4 un4 uc4) from rfl)
        have s3 := (cell_of_blk HS2.out 3).trans (show _ = some (.slice l4 ln4 lc4) from rfl)
        have s4 := (cell_of_blk HS2.out 4).trans (show _ = some (.string pt4) from rfl)
        have s5 := (cell_of_blk HS2.out 5).trans (show _ = some (.int .i64 pf5) from rfl)
        have s6 := (cell_of_blk HS2.out 6).trans (show _ = some (.int .i64 pd5) from rfl)
        have s7 := (cell_of_blk HS2.out 7).trans (show _ = some (.slice u5 un5 uc5) from rfl)
        have s8 := (cell_of_blk HS2.out 8).trans (show _ = some (.slice l5 ln5 lc5) from rfl)
        have s9 := (cell_of_blk HS2.out 9).trans (show _ = some (.string pt5) from rfl)
        have Hal : Hid (Below wo.heap.size wo (wo.alloc (.cells #[.int .i64 pf4, .int .i64 pd4, .slice u4 un4 uc4, .slice l4 ln4 lc4, .string pt4] 34))) := Lib.hid ((Below.refl _ _).alloc (Nat.le_refl _) _)
        have HTB := Lib.hid (blk_of_alloc wo (.cells #[.int .i64 pf4, .int .i64 pd4, .slice u4 un4 uc4, .slice l4 ln4 lc4, .string pt4] 34))
        have Hb7 := Lib.hid (Hb.out.trans (Hal.out.mono Hb.out.size))
        obtain ⟨tb, htb⟩ : ∃ o, o = wo.heap.size := ⟨_, rfl⟩
        have Htb := Lib.hid htb
        rw [← htb] at HTB
        clear htb HS2
        cases a with
        | false =>
          go_upto_region 9 with fail
          rw [← Htb.out]
          generalize wo.alloc (.cells #[.int .i64 pf4, .int .i64 pd4, .slice u4 un4 uc4, .slice l4 ln4 lc4, .string pt4] 34) = W7 at *
          go_wp2_with fail
          go_roundw
          case rel => exact ⟨1, .inr (.inl rfl), rfl, Hb7.out⟩
          case measure => simp [intOf]
        | true =>
          go_upto_region 9 with fail
          rw [← Htb.out]
          generalize wo.alloc (.cells #[.int .i64 pf4, .int .i64 pd4, .slice u4 un4 uc4, .slice l4 ln4 lc4, .string pt4] 34) = W7 at *
          clear s0 s1 s2 s3 s4 s5 s6 s7 s8 s9 Htb Hal
          obtain ⟨n, hn3, hlen, hpl⟩ := Hf4.out rfl
          injection hpl with hpf hpd hpu hplw hpt
          subst hpf hpd
          have Hpt := Lib.hid hpt
          have Hplw := Lib.hid hplw
          obtain ⟨u', un', uc', l', ln', lc', hcs, ⟨hq1, -⟩, hq2, -⟩ := HQ4.out.below Hb7.out
          injection hcs with hcs
          injection hcs with _ hcs
          injection hcs with _ hcs
          injection hcs with hcs1 hcs
          injection hcs with hcs2 _
          injection hcs1 with e1 e2 e3
          injection hcs2 with e4 e5 e6
          subst e1 e2 e3 e4 e5 e6
          dsimp only at hq1 hq2
          rw [hpu] at hq1
          have hun := isDz_len hq1
          have hln := isDz_len hq2
          rw [List.length_singleton] at hun
          subst hun
          obtain ⟨ub, uoff, hue, huc⟩ := isDz_at hq1 (by omega)
          subst hue
          have hln3 : ln4 ≤ 3 := by rw [hln, hplw, List.length_map, List.length_take]; omega
          have HLw := Lib.hid hq2
          have Hln := Lib.hid hln
          have Huc : Hid (∀ A : World, Below W7.heap.size W7 A → A.cell? ⟨ub, uoff, none⟩ = some (.int .i64 (planM U.l n).1.z)) := Lib.hid (fun A hA => by have := huc A hA 0 _ rfl; rwa [Nat.add_zero] at this)
          have Hlen := Lib.hid hlen
          have Hhas : Hid (hasT (tabs U.l 4) (planM U.l n).1.z = some n) := Lib.hid (hasT_in Hver.out (by omega) (planM_mem hlen))
          obtain ⟨zP, hzP⟩ : ∃ z, z = (planM U.l n).1.z := ⟨_, rfl⟩
          rw [← hzP] at Huc Hhas
          have HzP := Lib.hid hzP
          have Hll : Hid (pl4 = ((planO U.l n).take 3).map (·.z)) := Lib.hid hplw
          have hw1 : IntKind.i64.wrap ((n : Int) + 1) = (n : Int) + 1 := IntWalk.i64_in _ (by omega)
          have hk3 : decide ((ln4 : Int) > 3) = false := decide_eq_false (by omega)
          have hk3' : decide ((3 : Int) < (ln4 : Int)) = false := decide_eq_false (by omega)
          have hk3'' : decide (3 < ln4) = false := decide_eq_false (by omega)
          have HC7 := Lib.hid (HC6.out.trans (Hb7.out.mono HC6.out.size))
          have HV7 := Lib.hid (blk_bels HC7.out HV.out)
          have HHs : Hid (∀ A : World, Below W7.heap.size W7 A → Calls Tryd.prog 16 #[.agg #[.slice va0 vn0 vc0, .slice va1 vn1 vc1, .slice va2 vn2 vc2, .slice va3 vn3 vc3], .int .i64 zP] A fun e w' => e = .returned (.tuple #[.int .i64 n, .bool true]) ∧ Below A.heap.size A w') := Lib.hid (fun A hA => by
            have h := HHas.out zP A (HC7.out.trans (hA.mono HC7.out.size))
            unfold hasN hasB at h
            rw [Hhas.out] at h
            exact h)
          clear hq1 hq2 huc hpt hplw hzP hlen hpu hln
          have t0 := (cell_of_blk HTB.out 0).trans (show _ = some (.int .i64 n) from rfl)
          have t1 := (cell_of_blk HTB.out 1).trans (show _ = some (.int .i64 ((n : Int) + 1)) from rfl)
          have t2 := (cell_of_blk HTB.out 2).trans (show _ = some (.slice (some ⟨ub, uoff, none⟩) 1 uc4) from rfl)
          have t3 := (cell_of_blk HTB.out 3).trans (show _ = some (.slice l4 ln4 lc4) from rfl)
          have t4 := (cell_of_blk HTB.out 4).trans (show _ = some (.string pt4) from rfl)
          go_upto_region 12 with fail
          clear hk3 hk3' hk3''
          have hu0 := Huc.out W7 (Below.refl _ _)
          have c0 := (cell_of_blk HV7.out 0).trans (show _ = some (.slice va0 vn0 vc0) from rfl)
          have c1 := (cell_of_blk HV7.out 1).trans (show _ = some (.slice va1 vn1 vc1) from rfl)
          have c2 := (cell_of_blk HV7.out 2).trans (show _ = some (.slice va2 vn2 vc2) from rfl)
          have c3 := (cell_of_blk HV7.out 3).trans (show _ = some (.slice va3 vn3 vc3) from rfl)
          refine wp_region_held_drew (S := fun V' => Hid (Below W7.heap.size W7 V')) (by kernel_rfl) (Lib.hid ((Below.refl _ _).drew)) (fun hS0 => ?_)
          refine wpAnyH_take (i := 0) (oi := { dst := some 81, op := Op.load 26 (Operand.tmp 3), type := 26, pos := "law.go:105", after := #[], guard := none }) (v := ?_) rfl (by kernel_rfl) (by kernel_rfl) (by kernel_rfl) (fun _ _ _ h => h) (Or.inl ⟨by rfl, ?hy1⟩) hS0 ?_
          case hy1 => (intro V hSw; (try dsimp only at hSw); have q0 := grow_cell hSw.out (block_lt_of_cell t2) t2; have q1 := grow_cell hSw.out (block_lt_of_cell hu0) hu0; have q2 := grow_cell hSw.out (block_lt_of_cell c0) c0; have q3 := grow_cell hSw.out (block_lt_of_cell c1) c1; have q4 := grow_cell hSw.out (block_lt_of_cell c2) c2; have q5 := grow_cell hSw.out (block_lt_of_cell c3) c3; clear hSw; go_simp; try with_reducible rfl)
          try simp only [Act.put, List.setIfInBounds_toArray, List.set_cons_zero, List.set_cons_succ]
          refine wpAnyH_take (i := 1) (oi := { dst := some 82, op := Op.fieldAddr 34 (Operand.tmp 11) 2, type := 0, pos := "law.go:105", after := #[], guard := none }) (v := ?_) rfl (by kernel_rfl) (by kernel_rfl) (by kernel_rfl) (fun _ _ _ h => h) (Or.inl ⟨by rfl, ?hy2⟩) hS0 ?_
          case hy2 => (intro V hSw; (try dsimp only at hSw); clear hSw; go_simp; try with_reducible rfl)
          try simp only [Act.put, List.setIfInBounds_toArray, List.set_cons_zero, List.set_cons_succ]
          refine wpAnyH_take (i := 2) (oi := { dst := some 83, op := Op.load 32 (Operand.tmp 82), type := 32, pos := "law.go:105", after := #[{ on := 1, ground := Ground.data }], guard := none }) (v := ?_) rfl (by kernel_rfl) (by kernel_rfl) (by kernel_rfl) (fun _ _ _ h => h) (Or.inl ⟨by rfl, ?hy3⟩) hS0 ?_
          case hy3 => (intro V hSw; (try dsimp only at hSw); have q0 := grow_cell hSw.out (block_lt_of_cell t2) t2; have q1 := grow_cell hSw.out (block_lt_of_cell hu0) hu0; have q2 := grow_cell hSw.out (block_lt_of_cell c0) c0; have q3 := grow_cell hSw.out (block_lt_of_cell c1) c1; have q4 := grow_cell hSw.out (block_lt_of_cell c2) c2; have q5 := grow_cell hSw.out (block_lt_of_cell c3) c3; clear hSw; go_simp; try with_reducible rfl)
          try simp only [Act.put, List.setIfInBounds_toArray, List.set_cons_zero, List.set_cons_succ]
          refine wpAnyH_take (i := 3) (oi := { dst := some 84, op := Op.indexAddr 32 (Operand.tmp 83) (Operand.const (Value.int IntKind.i64 0)), type := 0, pos := "law.go:105", after := #[{ on := 2, ground := Ground.data }], guard := none }) (v := ?_) rfl (by kernel_rfl) (by kernel_rfl) (by kernel_rfl) (fun _ _ _ h => h) (Or.inl ⟨by rfl, ?hy4⟩) hS0 ?_
          case hy4 => (intro V hSw; (try dsimp only at hSw); clear hSw; go_simp; try with_reducible rfl)
          try simp only [Act.put, List.setIfInBounds_toArray, List.set_cons_zero, List.set_cons_succ]
          refine wpAnyH_take (i := 4) (oi := { dst := some 85, op := Op.load 3 (Operand.tmp 84), type := 3, pos := "law.go:105", after := #[{ on := 3, ground := Ground.data }], guard := none }) (v := ?_) rfl (by kernel_rfl) (by kernel_rfl) (by kernel_rfl) (fun _ _ _ h => h) (Or.inl ⟨by rfl, ?hy5⟩) hS0 ?_
          case hy5 => (intro V hSw; (try dsimp only at hSw); have q0 := grow_cell hSw.out (block_lt_of_cell t2) t2; have q1 := grow_cell hSw.out (block_lt_of_cell hu0) hu0; have q2 := grow_cell hSw.out (block_lt_of_cell c0) c0; have q3 := grow_cell hSw.out (block_lt_of_cell c1) c1; have q4 := grow_cell hSw.out (block_lt_of_cell c2) c2; have q5 := grow_cell hSw.out (block_lt_of_cell c3) c3; clear hSw; go_simp; try with_reducible rfl)
          try simp only [Act.put, List.setIfInBounds_toArray, List.set_cons_zero, List.set_cons_succ]
          refine wpAnyH_ready (rs := [5]) (by kernel_rfl) (by simp) (AllReadyH.cons rfl (fun K hK => ?_) AllReadyH.nil)
          go_simp
          refine (HHs.out _ hS0.out).mono ?_
          rintro e wv6 ⟨rfl, hv6⟩
          have hS6 := Lib.hid (hS0.out.trans (hv6.mono hS0.out.size))
          clear hv6
          refine hK.out _ _ hS6 (fun _ => ?_)
          clear hK K
          try simp only [Act.put, List.setIfInBounds_toArray, List.set_cons_zero, List.set_cons_succ]
          refine wpAnyH_take (i := 6) (oi := { dst := some 80, op := Op.move (Operand.tmp 86), type := 43, pos := "law.go:105", after := #[{ on := 5, ground := Ground.data }], guard := none }) (v := ?_) rfl (by kernel_rfl) (by kernel_rfl) (by kernel_rfl) (fun _ _ _ h => h) (Or.inl ⟨by rfl, ?hy7⟩) hS6 ?_
          case hy7 => (intro V hSw; (try dsimp only at hSw); clear hSw; go_simp; try with_reducible rfl)
          try simp only [Act.put, List.setIfInBounds_toArray, List.set_cons_zero, List.set_cons_succ]
          refine wpAnyH_take (i := 7) (oi := { dst := some 87, op := Op.extract (Operand.tmp 80) 0, type := 3, pos := "law.go:105", after := #[{ on := 6, ground := Ground.data }], guard := none }) (v := ?_) rfl (by kernel_rfl) (by kernel_rfl) (by kernel_rfl) (fun _ _ _ h => h) (Or.inl ⟨by rfl, ?hy8⟩) hS6 ?_
          case hy8 => (intro V hSw; (try dsimp only at hSw); clear hSw; go_simp; try with_reducible rfl)
          try simp only [Act.put, List.setIfInBounds_toArray, List.set_cons_zero, List.set_cons_succ]
          refine wpAnyH_take (i := 8) (oi := { dst := some 88, op := Op.extract (Operand.tmp 80) 1, type := 4, pos := "law.go:105", after := #[{ on := 6, ground := Ground.data }, { on := 9, ground := Ground.gcOnly Departure.lateStores }], guard := none }) (v := ?_) rfl (by kernel_rfl) (by kernel_rfl) (by kernel_rfl) (fun _ _ _ h => h) (Or.inl ⟨by rfl, ?hy9⟩) hS6 ?_
          case hy9 => (intro V hSw; (try dsimp only at hSw); clear hSw; go_simp; try with_reducible rfl)
          try simp only [Act.put, List.setIfInBounds_toArray, List.set_cons_zero, List.set_cons_succ]
          refine wpAnyH_take (i := 9) (oi := { dst := some 12, op := Op.assign (Operand.tmp 87), type := 3, pos := "law.go:105", after := #[{ on := 7, ground := Ground.data }, { on := 5, ground := Ground.chain }, { on := 0, ground := Ground.phase }, { on := 1, ground := Ground.phase }, { on := 2, ground := Ground.phase }, { on := 3, ground := Ground.phase }, { on := 4, ground := Ground.phase }, { on := 5, ground := Ground.phase }, { on := 6, ground := Ground.phase }, { on := 7, ground := Ground.phase }, { on := 8, ground := Ground.textOnly Departure.lateStores }], guard := none }) (v := ?_) rfl (by kernel_rfl) (by kernel_rfl) (by kernel_rfl) (fun _ _ _ h => h) (Or.inl ⟨by rfl, ?hy10⟩) hS6 ?_
          case hy10 => (intro V hSw; (try dsimp only at hSw); clear hSw; go_simp; try with_reducible rfl)
          try simp only [Act.put, List.setIfInBounds_toArray, List.set_cons_zero, List.set_cons_succ]
          refine wpAnyH_ready (rs := [10]) (by kernel_rfl) (by simp) (AllReadyH.cons rfl (fun K hK => ?_) AllReadyH.nil)
          go_simp
          refine hK.out _ _ hS6 (fun _ => ?_)
          clear hK K
          try simp only [Act.put, List.setIfInBounds_toArray, List.set_cons_zero, List.set_cons_succ]
          refine wpAnyH_done (by kernel_rfl) ?_ _
          skip
          have x0 := (cell_of_blk (blk_bels hS6.out HTB.out) 0).trans (show _ = some (.int .i64 n) from rfl)
          have x1 := (cell_of_blk (blk_bels hS6.out HTB.out) 1).trans (show _ = some (.int .i64 ((n : Int) + 1)) from rfl)
          have x2 := (cell_of_blk (blk_bels hS6.out HTB.out) 2).trans (show _ = some (.slice (some ⟨ub, uoff, none⟩) 1 uc4) from rfl)
          have x3 := (cell_of_blk (blk_bels hS6.out HTB.out) 3).trans (show _ = some (.slice l4 ln4 lc4) from rfl)
          have x4 := (cell_of_blk (blk_bels hS6.out HTB.out) 4).trans (show _ = some (.string pt4) from rfl)
          have Hbv := hS6
          have HC8 := Lib.hid (HC7.out.trans (Hbv.out.mono HC7.out.size))
          obtain ⟨sa, sc, hsl⟩ := Hlev.out n (by omega)
          obtain ⟨hcn, hmr⟩ := hsl _ HC8.out
          clear hsl
          have hni4 : (n : Int) < 4 := by omega
          obtain ⟨K, hK⟩ : ∃ K, K = (U.l n).length := ⟨_, rfl⟩
          rw [← hK] at hcn hmr
          have HK := Lib.hid hK
          have hMx := hmr.1.at
          have HMx := Lib.hid hMx.2.2.2
          have HMr := Lib.hid hmr.2
          have hKm := hMx.2.1
          have hKm2 := hMx.2.2.1
          unfold maxLen at hKm2
          clear hK hMx hmr t0 t1 t2 t3 t4 c0 c1 c2 c3 hu0
          go_wp2_with fail
          go_loopw [102] (fun jv wr => ∃ j : Nat, j ≤ K ∧ jv = .int .i64 j ∧ Below wv6.heap.size wv6 wr) (fun jv _ => K - (intOf jv).toNat)
          case atStart => exact ⟨0, Nat.zero_le _, rfl, Below.refl _ _⟩
          case round =>
            obtain ⟨wq, rfl⟩ : ∃ wq : World, wq = wr := ⟨_, rfl⟩
            obtain ⟨j, hj, rfl, hbq⟩ := hrel
            have Hbq := Lib.hid hbq
            have Hbq7 := Lib.hid (Hbv.out.trans (hbq.mono Hbv.out.size))
            by_cases hjK : j < K
            · obtain ⟨bb, off, rfl, hcell⟩ := HMx.out (by omega)
              obtain ⟨r, hr⟩ : ∃ r, (U.l n)[j]? = some r := ⟨_, List.getElem?_eq_getElem (by rw [← HK.out]; exact hjK)⟩
              obtain ⟨d0, d1, d2, d3, d4, d5, d6, d7, d8⟩ := IsMr.row (w := wq) (fun i x hi j y hj => (hbq.cell (block_lt_of_cell (hcell i x hi j y hj))).trans (hcell i x hi j y hj)) hr
              have hthe : r.1.z = zP → r.1.a.u = (planM U.l n).1.a.u ∧ r.1.b.u = (planM U.l n).1.b.u := fun e => by
                have := plan_the Hver.out hn3 Hlen.out (List.mem_of_getElem? hr) (by rw [e, HzP.out])
                rw [← this]; exact ⟨rfl, rfl⟩
              obtain ⟨mra, mrc, hrv, -, -, -⟩ := HMr.out r (List.mem_of_getElem? hr)
              obtain ⟨⟨mz, mn, ma, mb, refs⟩, vr⟩ := r
              dsimp only at d0 d1 d2 d3 d4 d5 d6 d7 d8 hrv hthe
              have Hthe := Lib.hid hthe
              generalize refs.length = mrn at *
              subst hrv
              have hAl : Below wq.heap.size wq (wq.alloc (.cells #[.int .i64 mz, .int .i64 mn, .string ma.u, .int .i64 ma.s, .int .i64 ma.k, .string mb.u, .int .i64 mb.s, .int .i64 mb.k, .slice mra mrn mrc] 49)) := (Below.refl _ _).alloc (Nat.le_refl _) _
              have HbM := Lib.hid (Hbq7.out.trans (hAl.mono Hbq7.out.size)).drew
              have HbV := Lib.hid (hbq.trans (hAl.mono hbq.size)).drew
              have HM8 := Lib.hid (blk_of_alloc wq (.cells #[.int .i64 mz, .int .i64 mn, .string ma.u, .int .i64 ma.s, .int .i64 ma.k, .string mb.u, .int .i64 mb.s, .int .i64 mb.k, .slice mra mrn mrc] 49))
              have HT8 := Lib.hid (blk_bels (Hbq7.out.trans (hAl.mono Hbq7.out.size)) HTB.out)
              have hu8 := Huc.out _ (Hbq7.out.trans (hAl.mono Hbq7.out.size))
              obtain ⟨mbk, hmbk⟩ : ∃ mb, mb = wq.heap.size := ⟨_, rfl⟩
              have Hmbk := Lib.hid hmbk
              rw [← hmbk] at HM8
              clear hr hcell hbq hmbk hthe hAl
              go_upto_region 18 with fail
              rw [← Hmbk.out]
              generalize wq.alloc (.cells #[.int .i64 mz, .int .i64 mn, .string ma.u, .int .i64 ma.s, .int .i64 ma.k, .string mb.u, .int .i64 mb.s, .int .i64 mb.k, .slice mra mrn mrc] 49) = W8 at *
              clear Hmbk d0 d1 d2 d3 d4 d5 d6 d7 d8
              have g0 := (cell_of_blk HM8.out 0).trans (show _ = some (.int .i64 mz) from rfl)
              have g2 := (cell_of_blk HT8.out 2).trans (show _ = some (.slice (some ⟨ub, uoff, none⟩) 1 uc4) from rfl)
              have HM9 := Lib.hid (drew_blk HM8.out)
              have HT9 := Lib.hid (drew_blk HT8.out)
              clear HM8 HT8
              by_cases hz : mz = zP
              · obtain ⟨hea, heb⟩ := Hthe.out hz
                subst hz
                have Hup0 := Lib.hid (upto_over Hver.out hn3)
                have HV9 := Lib.hid (blk_bels HbM.out HV7.out)
                refine wp_region_held_drew (S := fun V' => Hid (Below W8.heap.size W8 V')) (by kernel_rfl) (Lib.hid ((Below.refl _ _).drew)) (fun hS0 => ?_)
                refine wpAnyH_take (i := 0) (oi := { dst := some 106, op := Op.fieldAddr 49 (Operand.tmp 15) 0, type := 0, pos := "law.go:110", after := #[], guard := none }) (v := ?_) rfl (by kernel_rfl) (by kernel_rfl) (by kernel_rfl) (fun _ _ _ h => h) (Or.inl ⟨by rfl, ?hy11⟩) hS0 ?_
                case hy11 => (intro V hSw; (try dsimp only at hSw); clear hSw; go_simp; try with_reducible rfl)
                try simp only [Act.put, List.setIfInBounds_toArray, List.set_cons_zero, List.set_cons_succ]
                refine wpAnyH_take (i := 1) (oi := { dst := some 107, op := Op.load 3 (Operand.tmp 106), type := 3, pos := "law.go:110", after := #[{ on := 0, ground := Ground.data }], guard := none }) (v := ?_) rfl (by kernel_rfl) (by kernel_rfl) (by kernel_rfl) (fun _ _ _ h => h) (Or.inl ⟨by rfl, ?hy12⟩) hS0 ?_
                case hy12 => (intro V hSw; (try dsimp only at hSw); have q0 := grow_cell hSw.out (block_lt_of_cell g0) g0; have q1 := grow_cell hSw.out (block_lt_of_cell g2) g2; have q2 := grow_cell hSw.out (block_lt_of_cell hu8) hu8; clear hSw; go_simp; try with_reducible rfl)
                try simp only [Act.put, List.setIfInBounds_toArray, List.set_cons_zero, List.set_cons_succ]
                refine wpAnyH_take (i := 2) (oi := { dst := some 108, op := Op.fieldAddr 34 (Operand.tmp 11) 2, type := 0, pos := "law.go:110", after := #[], guard := none }) (v := ?_) rfl (by kernel_rfl) (by kernel_rfl) (by kernel_rfl) (fun _ _ _ h => h) (Or.inl ⟨by rfl, ?hy13⟩) hS0 ?_
                case hy13 => (intro V hSw; (try dsimp only at hSw); clear hSw; go_simp; try with_reducible rfl)
                try simp only [Act.put, List.setIfInBounds_toArray, List.set_cons_zero, List.set_cons_succ]
                refine wpAnyH_take (i := 3) (oi := { dst := some 109, op := Op.load 32 (Operand.tmp 108), type := 32, pos := "law.go:110", after := #[{ on := 2, ground := Ground.data }], guard := none }) (v := ?_) rfl (by kernel_rfl) (by kernel_rfl) (by kernel_rfl) (fun _ _ _ h => h) (Or.inl ⟨by rfl, ?hy14⟩) hS0 ?_
                case hy14 => (intro V hSw; (try dsimp only at hSw); have q0 := grow_cell hSw.out (block_lt_of_cell g0) g0; have q1 := grow_cell hSw.out (block_lt_of_cell g2) g2; have q2 := grow_cell hSw.out (block_lt_of_cell hu8) hu8; clear hSw; go_simp; try with_reducible rfl)
                try simp only [Act.put, List.setIfInBounds_toArray, List.set_cons_zero, List.set_cons_succ]
                refine wpAnyH_take (i := 4) (oi := { dst := some 110, op := Op.indexAddr 32 (Operand.tmp 109) (Operand.const (Value.int IntKind.i64 0)), type := 0, pos := "law.go:110", after := #[{ on := 3, ground := Ground.data }], guard := none }) (v := ?_) rfl (by kernel_rfl) (by kernel_rfl) (by kernel_rfl) (fun _ _ _ h => h) (Or.inl ⟨by rfl, ?hy15⟩) hS0 ?_
                case hy15 => (intro V hSw; (try dsimp only at hSw); clear hSw; go_simp; try with_reducible rfl)
                try simp only [Act.put, List.setIfInBounds_toArray, List.set_cons_zero, List.set_cons_succ]
                refine wpAnyH_take (i := 5) (oi := { dst := some 111, op := Op.load 3 (Operand.tmp 110), type := 3, pos := "law.go:110", after := #[{ on := 4, ground := Ground.data }], guard := none }) (v := ?_) rfl (by kernel_rfl) (by kernel_rfl) (by kernel_rfl) (fun _ _ _ h => h) (Or.inl ⟨by rfl, ?hy16⟩) hS0 ?_
                case hy16 => (intro V hSw; (try dsimp only at hSw); have q0 := grow_cell hSw.out (block_lt_of_cell g0) g0; have q1 := grow_cell hSw.out (block_lt_of_cell g2) g2; have q2 := grow_cell hSw.out (block_lt_of_cell hu8) hu8; clear hSw; go_simp; try with_reducible rfl)
                try simp only [Act.put, List.setIfInBounds_toArray, List.set_cons_zero, List.set_cons_succ]
                refine wpAnyH_take (i := 6) (oi := { dst := some 112, op := Op.binOp BinOp.neq 3 (Operand.tmp 107) (Operand.tmp 111) 3, type := 4, pos := "law.go:110", after := #[{ on := 1, ground := Ground.data }, { on := 5, ground := Ground.data }], guard := none }) (v := ?_) rfl (by kernel_rfl) (by kernel_rfl) (by kernel_rfl) (fun _ _ _ h => h) (Or.inl ⟨by rfl, ?hy17⟩) hS0 ?_
                case hy17 => (intro V hSw; (try dsimp only at hSw); clear hSw; go_simp; try with_reducible rfl)
                try simp only [Act.put, List.setIfInBounds_toArray, List.set_cons_zero, List.set_cons_succ]
                refine wpAnyH_done (by kernel_rfl) ?_ _
                generalize W8.drew = W9 at *
                clear g0 g2 hu8 hS0
                have m2 := (cell_of_blk HM9.out 2).trans (show _ = some (.string ma.u) from rfl)
                have m5 := (cell_of_blk HM9.out 5).trans (show _ = some (.string mb.u) from rfl)
                have t1 := (cell_of_blk HT9.out 1).trans (show _ = some (.int .i64 ((n : Int) + 1)) from rfl)
                have t4 := (cell_of_blk HT9.out 4).trans (show _ = some (.string pt4) from rfl)
                have c0 := (cell_of_blk HV9.out 0).trans (show _ = some (.slice va0 vn0 vc0) from rfl)
                have c1 := (cell_of_blk HV9.out 1).trans (show _ = some (.slice va1 vn1 vc1) from rfl)
                have c2 := (cell_of_blk HV9.out 2).trans (show _ = some (.slice va2 vn2 vc2) from rfl)
                have c3 := (cell_of_blk HV9.out 3).trans (show _ = some (.slice va3 vn3 vc3) from rfl)
                by_cases hpt0 : pt4 = ⟨#[]⟩
                · have hup := Hup0.out
                  rw [← Hpt.out, if_pos hpt0, ← hea, ← heb] at hup
                  have Hup := Lib.hid hup
                  clear hup hea heb
                  subst hpt0
                  go_wp2_with fail
                  refine (HOv.out _ _ _ _ (HC7.out.trans (HbM.out.mono HC7.out.size))).mono ?_
                  rintro e wb ⟨x2, rws2, rfl, hown, hrw, hbb⟩
                  have Hrw := Lib.hid (hrw.trans Hup.out)
                  obtain ⟨ya, yc, rfl⟩ := own_slice hown.1
                  obtain ⟨-, hyc, hym, hyx⟩ := hown.isMr.1.at
                  have Hyx := Lib.hid hyx
                  have Hrr := Lib.hid hown.isMr.2
                  have hm : rws2.length = ln4 := by
                    have := congrArg List.length Hrw.out
                    rw [List.length_map] at this
                    rw [this, Hln.out, Hll.out, List.length_map]
                  rw [hm] at hyc Hyx ⊢
                  have Hm := Lib.hid hm
                  have HbB := Lib.hid (HbM.out.trans (hbb.mono HbM.out.size))
                  have HbVb := Lib.hid (HbV.out.trans (hbb.mono HbV.out.size))
                  have HTb := Lib.hid (blk_bels HbB.out HTB.out)
                  clear hown hrw hbb hyx hm m2 m5 t1 t4 c0 c1 c2 c3
                  have t3 := (cell_of_blk HTb.out 3).trans (show _ = some (.slice l4 ln4 lc4) from rfl)
                  go_wp2_with fail
                  clear t3
                  go_loopw [137] (fun iv wr => ∃ i3 : Nat, i3 ≤ ln4 ∧ iv = .int .i64 i3 ∧ Below wb.heap.size wb wr) (fun iv _ => ln4 - (intOf iv).toNat)
                  case atStart => exact ⟨0, Nat.zero_le _, rfl, Below.refl _ _⟩
                  case round =>
                    obtain ⟨wq3, rfl⟩ : ∃ wq3 : World, wq3 = wr := ⟨_, rfl⟩
                    obtain ⟨i3, hi3, rfl, hb3⟩ := hrel
                    by_cases him : i3 < ln4
                    · obtain ⟨bb3, off3, rfl, hcell⟩ := Hyx.out (by omega)
                      obtain ⟨r3, hr3⟩ : ∃ r, rws2[i3]? = some r := ⟨_, List.getElem?_eq_getElem (by rw [Hm.out]; exact him)⟩
                      obtain ⟨d0, d1, d2, d3, d4, d5, d6, d7, d8⟩ := IsMr.row (w := wq3) (fun i x hi j y hj => (hb3.cell (block_lt_of_cell (hcell i x hi j y hj))).trans (hcell i x hi j y hj)) hr3
                      obtain ⟨yra, yrc, hrv, -, -, -⟩ := Hrr.out r3 (List.mem_of_getElem? hr3)
                      have hlow : pl4[i3]? = some r3.1.z := by
                        have : (rws2.map (·.1))[i3]? = some r3.1 := by rw [List.getElem?_map, hr3]; rfl
                        rw [Hrw.out] at this
                        rw [Hll.out, List.getElem?_map, this]; rfl
                      obtain ⟨lb, loff, hle, hlc⟩ := isDz_at HLw.out (by omega)
                      have hA3 := HbB.out.trans (hb3.mono HbB.out.size)
                      have HT3 := Lib.hid (blk_bels hA3 HTB.out)
                      obtain ⟨⟨yz, yn, ya', yb', refs⟩, vr⟩ := r3
                      dsimp only at d0 d1 d2 d3 d4 d5 d6 d7 d8 hrv hlow
                      generalize refs.length = yrn at *
                      subst hrv
                      have hAl : Below wq3.heap.size wq3 (wq3.alloc (.cells #[.int .i64 yz, .int .i64 yn, .string ya'.u, .int .i64 ya'.s, .int .i64 ya'.k, .string yb'.u, .int .i64 yb'.s, .int .i64 yb'.k, .slice yra yrn yrc] 49)) := (Below.refl _ _).alloc (Nat.le_refl _) _
                      have hl0 := hlc _ (hA3.trans (hAl.mono hA3.size)) _ _ hlow
                      have HAl := Lib.hid (hb3.trans (hAl.mono hb3.size))
                      have HM3 := Lib.hid (blk_of_alloc wq3 (.cells #[.int .i64 yz, .int .i64 yn, .string ya'.u, .int .i64 ya'.s, .int .i64 ya'.k, .string yb'.u, .int .i64 yb'.s, .int .i64 yb'.k, .slice yra yrn yrc] 49))
                      have HT3' := Lib.hid (blk_bels hAl HT3.out)
                      rw [hle] at HT3'
                      obtain ⟨mb3, hmb3⟩ : ∃ mb, mb = wq3.heap.size := ⟨_, rfl⟩
                      have Hmb3 := Lib.hid hmb3
                      rw [← hmb3] at HM3
                      have hi3n : (i3 : Int) < (ln4 : Int) := by omega
                      clear hr3 hcell hmb3 hA3 hlc hlow HT3 hAl hb3 hle
                      go_upto_region 28 with fail
                      rw [← Hmb3.out]
                      generalize wq3.alloc (.cells #[.int .i64 yz, .int .i64 yn, .string ya'.u, .int .i64 ya'.s, .int .i64 ya'.k, .string yb'.u, .int .i64 yb'.s, .int .i64 yb'.k, .slice yra yrn yrc] 49) = Wx at *
                      clear Hmb3 d0 d1 d2 d3 d4 d5 d6 d7 d8
                      have g0 := (cell_of_blk HM3.out 0).trans (show _ = some (.int .i64 yz) from rfl)
                      have g3 := (cell_of_blk HT3'.out 3).trans (show _ = some (.slice (some ⟨lb, loff, none⟩) ln4 lc4) from rfl)
                      have HAd := Lib.hid HAl.out.drew
                      refine wp_region_held_drew (S := fun V' => Hid (Below Wx.heap.size Wx V')) (by kernel_rfl) (Lib.hid ((Below.refl _ _).drew)) (fun hS0 => ?_)
                      refine wpAnyH_take (i := 0) (oi := { dst := some 142, op := Op.fieldAddr 49 (Operand.tmp 19) 0, type := 0, pos := "law.go:122", after := #[], guard := none }) (v := ?_) rfl (by kernel_rfl) (by kernel_rfl) (by kernel_rfl) (fun _ _ _ h => h) (Or.inl ⟨by rfl, ?hy18⟩) hS0 ?_
                      case hy18 => (intro V hSw; (try dsimp only at hSw); clear hSw; go_simp; try with_reducible rfl)
                      try simp only [Act.put, List.setIfInBounds_toArray, List.set_cons_zero, List.set_cons_succ]
                      refine wpAnyH_take (i := 1) (oi := { dst := some 143, op := Op.load 3 (Operand.tmp 142), type := 3, pos := "law.go:122", after := #[{ on := 0, ground := Ground.data }], guard := none }) (v := ?_) rfl (by kernel_rfl) (by kernel_rfl) (by kernel_rfl) (fun _ _ _ h => h) (Or.inl ⟨by rfl, ?hy19⟩) hS0 ?_
                      case hy19 => (intro V hSw; (try dsimp only at hSw); have q0 := grow_cell hSw.out (block_lt_of_cell g0) g0; have q1 := grow_cell hSw.out (block_lt_of_cell g3) g3; have q2 := grow_cell hSw.out (block_lt_of_cell hl0) hl0; clear hSw; go_simp; try with_reducible rfl)
                      try simp only [Act.put, List.setIfInBounds_toArray, List.set_cons_zero, List.set_cons_succ]
                      refine wpAnyH_take (i := 2) (oi := { dst := some 144, op := Op.fieldAddr 34 (Operand.tmp 11) 3, type := 0, pos := "law.go:122", after := #[], guard := none }) (v := ?_) rfl (by kernel_rfl) (by kernel_rfl) (by kernel_rfl) (fun _ _ _ h => h) (Or.inl ⟨by rfl, ?hy20⟩) hS0 ?_
                      case hy20 => (intro V hSw; (try dsimp only at hSw); clear hSw; go_simp; try with_reducible rfl)
                      try simp only [Act.put, List.setIfInBounds_toArray, List.set_cons_zero, List.set_cons_succ]
                      refine wpAnyH_take (i := 3) (oi := { dst := some 145, op := Op.load 32 (Operand.tmp 144), type := 32, pos := "law.go:122", after := #[{ on := 2, ground := Ground.data }], guard := none }) (v := ?_) rfl (by kernel_rfl) (by kernel_rfl) (by kernel_rfl) (fun _ _ _ h => h) (Or.inl ⟨by rfl, ?hy21⟩) hS0 ?_
                      case hy21 => (intro V hSw; (try dsimp only at hSw); have q0 := grow_cell hSw.out (block_lt_of_cell g0) g0; have q1 := grow_cell hSw.out (block_lt_of_cell g3) g3; have q2 := grow_cell hSw.out (block_lt_of_cell hl0) hl0; clear hSw; go_simp; try with_reducible rfl)
                      try simp only [Act.put, List.setIfInBounds_toArray, List.set_cons_zero, List.set_cons_succ]
                      refine wpAnyH_take (i := 4) (oi := { dst := some 146, op := Op.move (Operand.tmp 18), type := 3, pos := "law.go:122", after := #[], guard := none }) (v := ?_) rfl (by kernel_rfl) (by kernel_rfl) (by kernel_rfl) (fun _ _ _ h => h) (Or.inl ⟨by rfl, ?hy22⟩) hS0 ?_
                      case hy22 => (intro V hSw; (try dsimp only at hSw); clear hSw; go_simp; try with_reducible rfl)
                      try simp only [Act.put, List.setIfInBounds_toArray, List.set_cons_zero, List.set_cons_succ]
                      refine wpAnyH_take (i := 5) (oi := { dst := some 147, op := Op.indexAddr 32 (Operand.tmp 145) (Operand.tmp 146), type := 0, pos := "law.go:122", after := #[{ on := 3, ground := Ground.data }, { on := 4, ground := Ground.data }], guard := none }) (v := ?_) rfl (by kernel_rfl) (by kernel_rfl) (by kernel_rfl) (fun _ _ _ h => h) (Or.inl ⟨by rfl, ?hy23⟩) hS0 ?_
                      case hy23 => (intro V hSw; (try dsimp only at hSw); clear hSw; go_simp; try with_reducible rfl)
                      try simp only [Act.put, List.setIfInBounds_toArray, List.set_cons_zero, List.set_cons_succ]
                      refine wpAnyH_take (i := 6) (oi := { dst := some 148, op := Op.load 3 (Operand.tmp 147), type := 3, pos := "law.go:122", after := #[{ on := 5, ground := Ground.data }], guard := none }) (v := ?_) rfl (by kernel_rfl) (by kernel_rfl) (by kernel_rfl) (fun _ _ _ h => h) (Or.inl ⟨by rfl, ?hy24⟩) hS0 ?_
                      case hy24 => (intro V hSw; (try dsimp only at hSw); have q0 := grow_cell hSw.out (block_lt_of_cell g0) g0; have q1 := grow_cell hSw.out (block_lt_of_cell g3) g3; have q2 := grow_cell hSw.out (block_lt_of_cell hl0) hl0; clear hSw; go_simp; try with_reducible rfl)
                      try simp only [Act.put, List.setIfInBounds_toArray, List.set_cons_zero, List.set_cons_succ]
                      refine wpAnyH_take (i := 7) (oi := { dst := some 149, op := Op.binOp BinOp.neq 3 (Operand.tmp 143) (Operand.tmp 148) 3, type := 4, pos := "law.go:122", after := #[{ on := 1, ground := Ground.data }, { on := 6, ground := Ground.data }], guard := none }) (v := ?_) rfl (by kernel_rfl) (by kernel_rfl) (by kernel_rfl) (fun _ _ _ h => h) (Or.inl ⟨by rfl, ?hy25⟩) hS0 ?_
                      case hy25 => (intro V hSw; (try dsimp only at hSw); clear hSw; go_simp; try with_reducible rfl)
                      try simp only [Act.put, List.setIfInBounds_toArray, List.set_cons_zero, List.set_cons_succ]
                      refine wpAnyH_done (by kernel_rfl) ?_ _
                      generalize Wx.drew = Wy at *
                      clear g0 g3 hl0 hS0
                      go_wp2_with fail
                      go_roundw
                      case rel => exact ⟨i3 + 1, by omega, by go_num, HAd.out⟩
                      case measure => simp [intOf]; omega
                    · obtain rfl : i3 = ln4 := by omega
                      have HbE := Lib.hid (HbVb.out.trans (hb3.mono HbVb.out.size))
                      clear hb3
                      go_wp2_with fail
                      go_roundw
                      case rel => exact ⟨j + 1, by omega, by go_num, HbE.out⟩
                      case measure => simp [intOf]; omega
                · have hup := Hup0.out
                  rw [← Hpt.out, if_neg hpt0, ← hea] at hup
                  have Hup := Lib.hid hup
                  have hie : pt4.toList.isEmpty = false := by
                    cases hq : pt4.toList.isEmpty with
                    | false => rfl
                    | true =>
                      exfalso; apply hpt0; apply ba_ext
                      rw [List.isEmpty_iff] at hq
                      rw [← toList_eq, hq]
                  clear hup hea heb hpt0
                  go_wp2_with fail
                  refine (HOv.out _ _ _ _ (HC7.out.trans (HbM.out.mono HC7.out.size))).mono ?_
                  rintro e wb ⟨x2, rws2, rfl, hown, hrw, hbb⟩
                  have Hrw := Lib.hid (hrw.trans Hup.out)
                  obtain ⟨ya, yc, rfl⟩ := own_slice hown.1
                  obtain ⟨-, hyc, hym, hyx⟩ := hown.isMr.1.at
                  have Hyx := Lib.hid hyx
                  have Hrr := Lib.hid hown.isMr.2
                  have hm : rws2.length = ln4 := by
                    have := congrArg List.length Hrw.out
                    rw [List.length_map] at this
                    rw [this, Hln.out, Hll.out, List.length_map]
                  rw [hm] at hyc Hyx ⊢
                  have Hm := Lib.hid hm
                  have HbB := Lib.hid (HbM.out.trans (hbb.mono HbM.out.size))
                  have HbVb := Lib.hid (HbV.out.trans (hbb.mono HbV.out.size))
                  have HTb := Lib.hid (blk_bels HbB.out HTB.out)
                  clear hown hrw hbb hyx hm m2 m5 t1 t4 c0 c1 c2 c3
                  have t3 := (cell_of_blk HTb.out 3).trans (show _ = some (.slice l4 ln4 lc4) from rfl)
                  go_wp2_with fail
                  clear t3
                  go_loopw [137] (fun iv wr => ∃ i3 : Nat, i3 ≤ ln4 ∧ iv = .int .i64 i3 ∧ Below wb.heap.size wb wr) (fun iv _ => ln4 - (intOf iv).toNat)
                  case atStart => exact ⟨0, Nat.zero_le _, rfl, Below.refl _ _⟩
                  case round =>
                    obtain ⟨wq3, rfl⟩ : ∃ wq3 : World, wq3 = wr := ⟨_, rfl⟩
                    obtain ⟨i3, hi3, rfl, hb3⟩ := hrel
                    by_cases him : i3 < ln4
                    · obtain ⟨bb3, off3, rfl, hcell⟩ := Hyx.out (by omega)
                      obtain ⟨r3, hr3⟩ : ∃ r, rws2[i3]? = some r := ⟨_, List.getElem?_eq_getElem (by rw [Hm.out]; exact him)⟩
                      obtain ⟨d0, d1, d2, d3, d4, d5, d6, d7, d8⟩ := IsMr.row (w := wq3) (fun i x hi j y hj => (hb3.cell (block_lt_of_cell (hcell i x hi j y hj))).trans (hcell i x hi j y hj)) hr3
                      obtain ⟨yra, yrc, hrv, -, -, -⟩ := Hrr.out r3 (List.mem_of_getElem? hr3)
                      have hlow : pl4[i3]? = some r3.1.z := by
                        have : (rws2.map (·.1))[i3]? = some r3.1 := by rw [List.getElem?_map, hr3]; rfl
                        rw [Hrw.out] at this
                        rw [Hll.out, List.getElem?_map, this]; rfl
                      obtain ⟨lb, loff, hle, hlc⟩ := isDz_at HLw.out (by omega)
                      have hA3 := HbB.out.trans (hb3.mono HbB.out.size)
                      have HT3 := Lib.hid (blk_bels hA3 HTB.out)
                      obtain ⟨⟨yz, yn, ya', yb', refs⟩, vr⟩ := r3
                      dsimp only at d0 d1 d2 d3 d4 d5 d6 d7 d8 hrv hlow
                      generalize refs.length = yrn at *
                      subst hrv
                      have hAl : Below wq3.heap.size wq3 (wq3.alloc (.cells #[.int .i64 yz, .int .i64 yn, .string ya'.u, .int .i64 ya'.s, .int .i64 ya'.k, .string yb'.u, .int .i64 yb'.s, .int .i64 yb'.k, .slice yra yrn yrc] 49)) := (Below.refl _ _).alloc (Nat.le_refl _) _
                      have hl0 := hlc _ (hA3.trans (hAl.mono hA3.size)) _ _ hlow
                      have HAl := Lib.hid (hb3.trans (hAl.mono hb3.size))
                      have HM3 := Lib.hid (blk_of_alloc wq3 (.cells #[.int .i64 yz, .int .i64 yn, .string ya'.u, .int .i64 ya'.s, .int .i64 ya'.k, .string yb'.u, .int .i64 yb'.s, .int .i64 yb'.k, .slice yra yrn yrc] 49))
                      have HT3' := Lib.hid (blk_bels hAl HT3.out)
                      rw [hle] at HT3'
                      obtain ⟨mb3, hmb3⟩ : ∃ mb, mb = wq3.heap.size := ⟨_, rfl⟩
                      have Hmb3 := Lib.hid hmb3
                      rw [← hmb3] at HM3
                      have hi3n : (i3 : Int) < (ln4 : Int) := by omega
                      clear hr3 hcell hmb3 hA3 hlc hlow HT3 hAl hb3 hle
                      go_upto_region 28 with fail
                      rw [← Hmb3.out]
                      generalize wq3.alloc (.cells #[.int .i64 yz, .int .i64 yn, .string ya'.u, .int .i64 ya'.s, .int .i64 ya'.k, .string yb'.u, .int .i64 yb'.s, .int .i64 yb'.k, .slice yra yrn yrc] 49) = Wx at *
                      clear Hmb3 d0 d1 d2 d3 d4 d5 d6 d7 d8
                      have g0 := (cell_of_blk HM3.out 0).trans (show _ = some (.int .i64 yz) from rfl)
                      have g3 := (cell_of_blk HT3'.out 3).trans (show _ = some (.slice (some ⟨lb, loff, none⟩) ln4 lc4) from rfl)
                      have HAd := Lib.hid HAl.out.drew
                      refine wp_region_held_drew (S := fun V' => Hid (Below Wx.heap.size Wx V')) (by kernel_rfl) (Lib.hid ((Below.refl _ _).drew)) (fun hS0 => ?_)
                      refine wpAnyH_take (i := 0) (oi := { dst := some 142, op := Op.fieldAddr 49 (Operand.tmp 19) 0, type := 0, pos := "law.go:122", after := #[], guard := none }) (v := ?_) rfl (by kernel_rfl) (by kernel_rfl) (by kernel_rfl) (fun _ _ _ h => h) (Or.inl ⟨by rfl, ?hy26⟩) hS0 ?_
                      case hy26 => (intro V hSw; (try dsimp only at hSw); clear hSw; go_simp; try with_reducible rfl)
                      try simp only [Act.put, List.setIfInBounds_toArray, List.set_cons_zero, List.set_cons_succ]
                      refine wpAnyH_take (i := 1) (oi := { dst := some 143, op := Op.load 3 (Operand.tmp 142), type := 3, pos := "law.go:122", after := #[{ on := 0, ground := Ground.data }], guard := none }) (v := ?_) rfl (by kernel_rfl) (by kernel_rfl) (by kernel_rfl) (fun _ _ _ h => h) (Or.inl ⟨by rfl, ?hy27⟩) hS0 ?_
                      case hy27 => (intro V hSw; (try dsimp only at hSw); have q0 := grow_cell hSw.out (block_lt_of_cell g0) g0; have q1 := grow_cell hSw.out (block_lt_of_cell g3) g3; have q2 := grow_cell hSw.out (block_lt_of_cell hl0) hl0; clear hSw; go_simp; try with_reducible rfl)
                      try simp only [Act.put, List.setIfInBounds_toArray, List.set_cons_zero, List.set_cons_succ]
                      refine wpAnyH_take (i := 2) (oi := { dst := some 144, op := Op.fieldAddr 34 (Operand.tmp 11) 3, type := 0, pos := "law.go:122", after := #[], guard := none }) (v := ?_) rfl (by kernel_rfl) (by kernel_rfl) (by kernel_rfl) (fun _ _ _ h => h) (Or.inl ⟨by rfl, ?hy28⟩) hS0 ?_
                      case hy28 => (intro V hSw; (try dsimp only at hSw); clear hSw; go_simp; try with_reducible rfl)
                      try simp only [Act.put, List.setIfInBounds_toArray, List.set_cons_zero, List.set_cons_succ]
                      refine wpAnyH_take (i := 3) (oi := { dst := some 145, op := Op.load 32 (Operand.tmp 144), type := 32, pos := "law.go:122", after := #[{ on := 2, ground := Ground.data }], guard := none }) (v := ?_) rfl (by kernel_rfl) (by kernel_rfl) (by kernel_rfl) (fun _ _ _ h => h) (Or.inl ⟨by rfl, ?hy29⟩) hS0 ?_
                      case hy29 => (intro V hSw; (try dsimp only at hSw); have q0 := grow_cell hSw.out (block_lt_of_cell g0) g0; have q1 := grow_cell hSw.out (block_lt_of_cell g3) g3; have q2 := grow_cell hSw.out (block_lt_of_cell hl0) hl0; clear hSw; go_simp; try with_reducible rfl)
                      try simp only [Act.put, List.setIfInBounds_toArray, List.set_cons_zero, List.set_cons_succ]
                      refine wpAnyH_take (i := 4) (oi := { dst := some 146, op := Op.move (Operand.tmp 18), type := 3, pos := "law.go:122", after := #[], guard := none }) (v := ?_) rfl (by kernel_rfl) (by kernel_rfl) (by kernel_rfl) (fun _ _ _ h => h) (Or.inl ⟨by rfl, ?hy30⟩) hS0 ?_
                      case hy30 => (intro V hSw; (try dsimp only at hSw); clear hSw; go_simp; try with_reducible rfl)
                      try simp only [Act.put, List.setIfInBounds_toArray, List.set_cons_zero, List.set_cons_succ]
                      refine wpAnyH_take (i := 5) (oi := { dst := some 147, op := Op.indexAddr 32 (Operand.tmp 145) (Operand.tmp 146), type := 0, pos := "law.go:122", after := #[{ on := 3, ground := Ground.data }, { on := 4, ground := Ground.data }], guard := none }) (v := ?_) rfl (by kernel_rfl) (by kernel_rfl) (by kernel_rfl) (fun _ _ _ h => h) (Or.inl ⟨by rfl, ?hy31⟩) hS0 ?_
                      case hy31 => (intro V hSw; (try dsimp only at hSw); clear hSw; go_simp; try with_reducible rfl)
                      try simp only [Act.put, List.setIfInBounds_toArray, List.set_cons_zero, List.set_cons_succ]
                      refine wpAnyH_take (i := 6) (oi := { dst := some 148, op := Op.load 3 (Operand.tmp 147), type := 3, pos := "law.go:122", after := #[{ on := 5, ground := Ground.data }], guard := none }) (v := ?_) rfl (by kernel_rfl) (by kernel_rfl) (by kernel_rfl) (fun _ _ _ h => h) (Or.inl ⟨by rfl, ?hy32⟩) hS0 ?_
                      case hy32 => (intro V hSw; (try dsimp only at hSw); have q0 := grow_cell hSw.out (block_lt_of_cell g0) g0; have q1 := grow_cell hSw.out (block_lt_of_cell g3) g3; have q2 := grow_cell hSw.out (block_lt_of_cell hl0) hl0; clear hSw; go_simp; try with_reducible rfl)
                      try simp only [Act.put, List.setIfInBounds_toArray, List.set_cons_zero, List.set_cons_succ]
                      refine wpAnyH_take (i := 7) (oi := { dst := some 149, op := Op.binOp BinOp.neq 3 (Operand.tmp 143) (Operand.tmp 148) 3, type := 4, pos := "law.go:122", after := #[{ on := 1, ground := Ground.data }, { on := 6, ground := Ground.data }], guard := none }) (v := ?_) rfl (by kernel_rfl) (by kernel_rfl) (by kernel_rfl) (fun _ _ _ h => h) (Or.inl ⟨by rfl, ?hy33⟩) hS0 ?_
                      case hy33 => (intro V hSw; (try dsimp only at hSw); clear hSw; go_simp; try with_reducible rfl)
                      try simp only [Act.put, List.setIfInBounds_toArray, List.set_cons_zero, List.set_cons_succ]
                      refine wpAnyH_done (by kernel_rfl) ?_ _
                      generalize Wx.drew = Wy at *
                      clear g0 g3 hl0 hS0
                      go_wp2_with fail
                      go_roundw
                      case rel => exact ⟨i3 + 1, by omega, by go_num, HAd.out⟩
                      case measure => simp [intOf]; omega
                    · obtain rfl : i3 = ln4 := by omega
                      have HbE := Lib.hid (HbVb.out.trans (hb3.mono HbVb.out.size))
                      clear hb3
                      go_wp2_with fail
                      go_roundw
                      case rel => exact ⟨j + 1, by omega, by go_num, HbE.out⟩
                      case measure => simp [intOf]; omega
              · skip
                refine wp_region_held_drew (S := fun V' => Hid (Below W8.heap.size W8 V')) (by kernel_rfl) (Lib.hid ((Below.refl _ _).drew)) (fun hS0 => ?_)
                refine wpAnyH_take (i := 0) (oi := { dst := some 106, op := Op.fieldAddr 49 (Operand.tmp 15) 0, type := 0, pos := "law.go:110", after := #[], guard := none }) (v := ?_) rfl (by kernel_rfl) (by kernel_rfl) (by kernel_rfl) (fun _ _ _ h => h) (Or.inl ⟨by rfl, ?hy34⟩) hS0 ?_
                case hy34 => (intro V hSw; (try dsimp only at hSw); clear hSw; go_simp; try with_reducible rfl)
                try simp only [Act.put, List.setIfInBounds_toArray, List.set_cons_zero, List.set_cons_succ]
                refine wpAnyH_take (i := 1) (oi := { dst := some 107, op := Op.load 3 (Operand.tmp 106), type := 3, pos := "law.go:110", after := #[{ on := 0, ground := Ground.data }], guard := none }) (v := ?_) rfl (by kernel_rfl) (by kernel_rfl) (by kernel_rfl) (fun _ _ _ h => h) (Or.inl ⟨by rfl, ?hy35⟩) hS0 ?_
                case hy35 => (intro V hSw; (try dsimp only at hSw); have q0 := grow_cell hSw.out (block_lt_of_cell g0) g0; have q1 := grow_cell hSw.out (block_lt_of_cell g2) g2; have q2 := grow_cell hSw.out (block_lt_of_cell hu8) hu8; clear hSw; go_simp; try with_reducible rfl)
                try simp only [Act.put, List.setIfInBounds_toArray, List.set_cons_zero, List.set_cons_succ]
                refine wpAnyH_take (i := 2) (oi := { dst := some 108, op := Op.fieldAddr 34 (Operand.tmp 11) 2, type := 0, pos := "law.go:110", after := #[], guard := none }) (v := ?_) rfl (by kernel_rfl) (by kernel_rfl) (by kernel_rfl) (fun _ _ _ h => h) (Or.inl ⟨by rfl, ?hy36⟩) hS0 ?_
                case hy36 => (intro V hSw; (try dsimp only at hSw); clear hSw; go_simp; try with_reducible rfl)
                try simp only [Act.put, List.setIfInBounds_toArray, List.set_cons_zero, List.set_cons_succ]
                refine wpAnyH_take (i := 3) (oi := { dst := some 109, op := Op.load 32 (Operand.tmp 108), type := 32, pos := "law.go:110", after := #[{ on := 2, ground := Ground.data }], guard := none }) (v := ?_) rfl (by kernel_rfl) (by kernel_rfl) (by kernel_rfl) (fun _ _ _ h => h) (Or.inl ⟨by rfl, ?hy37⟩) hS0 ?_
                case hy37 => (intro V hSw; (try dsimp only at hSw); have q0 := grow_cell hSw.out (block_lt_of_cell g0) g0; have q1 := grow_cell hSw.out (block_lt_of_cell g2) g2; have q2 := grow_cell hSw.out (block_lt_of_cell hu8) hu8; clear hSw; go_simp; try with_reducible rfl)
                try simp only [Act.put, List.setIfInBounds_toArray, List.set_cons_zero, List.set_cons_succ]
                refine wpAnyH_take (i := 4) (oi := { dst := some 110, op := Op.indexAddr 32 (Operand.tmp 109) (Operand.const (Value.int IntKind.i64 0)), type := 0, pos := "law.go:110", after := #[{ on := 3, ground := Ground.data }], guard := none }) (v := ?_) rfl (by kernel_rfl) (by kernel_rfl) (by kernel_rfl) (fun _ _ _ h => h) (Or.inl ⟨by rfl, ?hy38⟩) hS0 ?_
                case hy38 => (intro V hSw; (try dsimp only at hSw); clear hSw; go_simp; try with_reducible rfl)
                try simp only [Act.put, List.setIfInBounds_toArray, List.set_cons_zero, List.set_cons_succ]
                refine wpAnyH_take (i := 5) (oi := { dst := some 111, op := Op.load 3 (Operand.tmp 110), type := 3, pos := "law.go:110", after := #[{ on := 4, ground := Ground.data }], guard := none }) (v := ?_) rfl (by kernel_rfl) (by kernel_rfl) (by kernel_rfl) (fun _ _ _ h => h) (Or.inl ⟨by rfl, ?hy39⟩) hS0 ?_
                case hy39 => (intro V hSw; (try dsimp only at hSw); have q0 := grow_cell hSw.out (block_lt_of_cell g0) g0; have q1 := grow_cell hSw.out (block_lt_of_cell g2) g2; have q2 := grow_cell hSw.out (block_lt_of_cell hu8) hu8; clear hSw; go_simp; try with_reducible rfl)
                try simp only [Act.put, List.setIfInBounds_toArray, List.set_cons_zero, List.set_cons_succ]
                refine wpAnyH_take (i := 6) (oi := { dst := some 112, op := Op.binOp BinOp.neq 3 (Operand.tmp 107) (Operand.tmp 111) 3, type := 4, pos := "law.go:110", after := #[{ on := 1, ground := Ground.data }, { on := 5, ground := Ground.data }], guard := none }) (v := ?_) rfl (by kernel_rfl) (by kernel_rfl) (by kernel_rfl) (fun _ _ _ h => h) (Or.inl ⟨by rfl, ?hy40⟩) hS0 ?_
                case hy40 => (intro V hSw; (try dsimp only at hSw); clear hSw; go_simp; try with_reducible rfl)
                try simp only [Act.put, List.setIfInBounds_toArray, List.set_cons_zero, List.set_cons_succ]
                refine wpAnyH_done (by kernel_rfl) ?_ _
                generalize W8.drew = W9 at *
                clear g0 g2 hu8 hS0
                go_wp2_with fail
                go_roundw
                case rel => exact ⟨j + 1, by omega, by go_num, HbV.out⟩
                case measure => simp [intOf]; omega
            · obtain rfl : j = K := by omega
              have Hbe := Lib.hid (Hb7.out.trans (Hbq7.out.mono Hb7.out.size))
              clear hbq
              go_wp2_with fail
              go_roundw
              case rel => exact ⟨1, .inr (.inl rfl), rfl, Hbe.out⟩
              case measure => simp [intOf]
      · have HS2 := Lib.hid (blk_bels Hb.out HS.out)
        have s0 := (cell_of_blk HS2.out 0).trans (show _ = some (.int .i64 pf4) from rfl)
        have s1 := (cell_of_blk HS2.out 1).trans (show _ = some (.int .i64 pd4) from rfl)
        have s2 := (cell_of_blk HS2.out 2).trans (show _ = some (.slice u4 un4 uc4) from rfl)
        have s3 := (cell_of_blk HS2.out 3).trans (show _ = some (.slice l4 ln4 lc4) from rfl)
        have s4 := (cell_of_blk HS2.out 4).trans (show _ = some (.string pt4) from rfl)
        have s5 := (cell_of_blk HS2.out 5).trans (show _ = some (.int .i64 pf5) from rfl)
        have s6 := (cell_of_blk HS2.out 6).trans (show _ = some (.int .i64 pd5) from rfl)
        have s7 := (cell_of_blk HS2.out 7).trans (show _ = some (.slice u5 un5 uc5) from rfl)
        have s8 := (cell_of_blk HS2.out 8).trans (show _ = some (.slice l5 ln5 lc5) from rfl)
        have s9 := (cell_of_blk HS2.out 9).trans (show _ = some (.string pt5) from rfl)
        have Hal : Hid (Below wo.heap.size wo (wo.alloc (.cells #[.int .i64 pf5, .int .i64 pd5, .slice u5 un5 uc5, .slice l5 ln5 lc5, .string pt5] 34))) := Lib.hid ((Below.refl _ _).alloc (Nat.le_refl _) _)
        have HTB := Lib.hid (blk_of_alloc wo (.cells #[.int .i64 pf5, .int .i64 pd5, .slice u5 un5 uc5, .slice l5 ln5 lc5, .string pt5] 34))
        have Hb7 := Lib.hid (Hb.out.trans (Hal.out.mono Hb.out.size))
        obtain ⟨tb, htb⟩ : ∃ o, o = wo.heap.size := ⟨_, rfl⟩
        have Htb := Lib.hid htb
        rw [← htb] at HTB
        clear htb HS2
        cases c with
        | false =>
          go_upto_region 9 with fail
          rw [← Htb.out]
          generalize wo.alloc (.cells #[.int .i64 pf5, .int .i64 pd5, .slice u5 un5 uc5, .slice l5 ln5 lc5, .string pt5] 34) = W7 at *
          go_wp2_with fail
          go_roundw
          case rel => exact ⟨2, .inr (.inr rfl), rfl, Hb7.out⟩
          case measure => simp [intOf]
        | true =>
          go_upto_region 9 with fail
          rw [← Htb.out]
          generalize wo.alloc (.cells #[.int .i64 pf5, .int .i64 pd5, .slice u5 un5 uc5, .slice l5 ln5 lc5, .string pt5] 34) = W7 at *
          clear s0 s1 s2 s3 s4 s5 s6 s7 s8 s9 Htb Hal
          obtain ⟨n, hn3, hlen, hpl⟩ := Hf5.out rfl
          injection hpl with hpf hpd hpu hplw hpt
          subst hpf hpd
          have Hpt := Lib.hid hpt
          have Hplw := Lib.hid hplw
          obtain ⟨u', un', uc', l', ln', lc', hcs, ⟨hq1, -⟩, hq2, -⟩ := HQ6.out.below Hb7.out
          injection hcs with hcs
          injection hcs with _ hcs
          injection hcs with _ hcs
          injection hcs with hcs1 hcs
          injection hcs with hcs2 _
          injection hcs1 with e1 e2 e3
          injection hcs2 with e4 e5 e6
          subst e1 e2 e3 e4 e5 e6
          dsimp only at hq1 hq2
          rw [hpu] at hq1
          have hun := isDz_len hq1
          have hln := isDz_len hq2
          rw [List.length_singleton] at hun
          subst hun
          obtain ⟨ub, uoff, hue, huc⟩ := isDz_at hq1 (by omega)
          subst hue
          have hln3 : ln5 ≤ 3 := by rw [hln, hplw, List.length_map, List.length_take]; omega
          have HLw := Lib.hid hq2
          have Hln := Lib.hid hln
          have Huc : Hid (∀ A : World, Below W7.heap.size W7 A → A.cell? ⟨ub, uoff, none⟩ = some (.int .i64 (planM U.l n).1.z)) := Lib.hid (fun A hA => by have := huc A hA 0 _ rfl; rwa [Nat.add_zero] at this)
          have Hlen := Lib.hid hlen
          have Hhas : Hid (hasT (tabs U.l 4) (planM U.l n).1.z = some n) := Lib.hid (hasT_in Hver.out (by omega) (planM_mem hlen))
          obtain ⟨zP, hzP⟩ : ∃ z, z = (planM U.l n).1.z := ⟨_, rfl⟩
          rw [← hzP] at Huc Hhas
          have HzP := Lib.hid hzP
          have Hll : Hid (pl5 = ((planO U.l n).take 3).map (·.z)) := Lib.hid hplw
          have hw1 : IntKind.i64.wrap ((n : Int) + 1) = (n : Int) + 1 := IntWalk.i64_in _ (by omega)
          have hk3 : decide ((ln5 : Int) > 3) = false := decide_eq_false (by omega)
          have hk3' : decide ((3 : Int) < (ln5 : Int)) = false := decide_eq_false (by omega)
          have hk3'' : decide (3 < ln5) = false := decide_eq_false (by omega)
          have HC7 := Lib.hid (HC6.out.trans (Hb7.out.mono HC6.out.size))
          have HV7 := Lib.hid (blk_bels HC7.out HV.out)
          have HHs : Hid (∀ A : World, Below W7.heap.size W7 A → Calls Tryd.prog 16 #[.agg #[.slice va0 vn0 vc0, .slice va1 vn1 vc1, .slice va2 vn2 vc2, .slice va3 vn3 vc3], .int .i64 zP] A fun e w' => e = .returned (.tuple #[.int .i64 n, .bool true]) ∧ Below A.heap.size A w') := Lib.hid (fun A hA => by
            have h := HHas.out zP A (HC7.out.trans (hA.mono HC7.out.size))
            unfold hasN hasB at h
            rw [Hhas.out] at h
            exact h)
          clear hq1 hq2 huc hpt hplw hzP hlen hpu hln
          have t0 := (cell_of_blk HTB.out 0).trans (show _ = some (.int .i64 n) from rfl)
          have t1 := (cell_of_blk HTB.out 1).trans (show _ = some (.int .i64 ((n : Int) + 1)) from rfl)
          have t2 := (cell_of_blk HTB.out 2).trans (show _ = some (.slice (some ⟨ub, uoff, none⟩) 1 uc5) from rfl)
          have t3 := (cell_of_blk HTB.out 3).trans (show _ = some (.slice l5 ln5 lc5) from rfl)
          have t4 := (cell_of_blk HTB.out 4).trans (show _ = some (.string pt5) from rfl)
          go_upto_region 12 with fail
          clear hk3 hk3' hk3''
          have hu0 := Huc.out W7 (Below.refl _ _)
          have c0 := (cell_of_blk HV7.out 0).trans (show _ = some (.slice va0 vn0 vc0) from rfl)
          have c1 := (cell_of_blk HV7.out 1).trans (show _ = some (.slice va1 vn1 vc1) from rfl)
          have c2 := (cell_of_blk HV7.out 2).trans (show _ = some (.slice va2 vn2 vc2) from rfl)
          have c3 := (cell_of_blk HV7.out 3).trans (show _ = some (.slice va3 vn3 vc3) from rfl)
          refine wp_region_held_drew (S := fun V' => Hid (Below W7.heap.size W7 V')) (by kernel_rfl) (Lib.hid ((Below.refl _ _).drew)) (fun hS0 => ?_)
          refine wpAnyH_take (i := 0) (oi := { dst := some 81, op := Op.load 26 (Operand.tmp 3), type := 26, pos := "law.go:105", after := #[], guard := none }) (v := ?_) rfl (by kernel_rfl) (by kernel_rfl) (by kernel_rfl) (fun _ _ _ h => h) (Or.inl ⟨by rfl, ?hy41⟩) hS0 ?_
          case hy41 => (intro V hSw; (try dsimp only at hSw); have q0 := grow_cell hSw.out (block_lt_of_cell t2) t2; have q1 := grow_cell hSw.out (block_lt_of_cell hu0) hu0; have q2 := grow_cell hSw.out (block_lt_of_cell c0) c0; have q3 := grow_cell hSw.out (block_lt_of_cell c1) c1; have q4 := grow_cell hSw.out (block_lt_of_cell c2) c2; have q5 := grow_cell hSw.out (block_lt_of_cell c3) c3; clear hSw; go_simp; try with_reducible rfl)
          try simp only [Act.put, List.setIfInBounds_toArray, List.set_cons_zero, List.set_cons_succ]
          refine wpAnyH_take (i := 1) (oi := { dst := some 82, op := Op.fieldAddr 34 (Operand.tmp 11) 2, type := 0, pos := "law.go:105", after := #[], guard := none }) (v := ?_) rfl (by kernel_rfl) (by kernel_rfl) (by kernel_rfl) (fun _ _ _ h => h) (Or.inl ⟨by rfl, ?hy42⟩) hS0 ?_
          case hy42 => (intro V hSw; (try dsimp only at hSw); clear hSw; go_simp; try with_reducible rfl)
          try simp only [Act.put, List.setIfInBounds_toArray, List.set_cons_zero, List.set_cons_succ]
          refine wpAnyH_take (i := 2) (oi := { dst := some 83, op := Op.load 32 (Operand.tmp 82), type := 32, pos := "law.go:105", after := #[{ on := 1, ground := Ground.data }], guard := none }) (v := ?_) rfl (by kernel_rfl) (by kernel_rfl) (by kernel_rfl) (fun _ _ _ h => h) (Or.inl ⟨by rfl, ?hy43⟩) hS0 ?_
          case hy43 => (intro V hSw; (try dsimp only at hSw); have q0 := grow_cell hSw.out (block_lt_of_cell t2) t2; have q1 := grow_cell hSw.out (block_lt_of_cell hu0) hu0; have q2 := grow_cell hSw.out (block_lt_of_cell c0) c0; have q3 := grow_cell hSw.out (block_lt_of_cell c1) c1; have q4 := grow_cell hSw.out (block_lt_of_cell c2) c2; have q5 := grow_cell hSw.out (block_lt_of_cell c3) c3; clear hSw; go_simp; try with_reducible rfl)
          try simp only [Act.put, List.setIfInBounds_toArray, List.set_cons_zero, List.set_cons_succ]
          refine wpAnyH_take (i := 3) (oi := { dst := some 84, op := Op.indexAddr 32 (Operand.tmp 83) (Operand.const (Value.int IntKind.i64 0)), type := 0, pos := "law.go:105", after := #[{ on := 2, ground := Ground.data }], guard := none }) (v := ?_) rfl (by kernel_rfl) (by kernel_rfl) (by kernel_rfl) (fun _ _ _ h => h) (Or.inl ⟨by rfl, ?hy44⟩) hS0 ?_
          case hy44 => (intro V hSw; (try dsimp only at hSw); clear hSw; go_simp; try with_reducible rfl)
          try simp only [Act.put, List.setIfInBounds_toArray, List.set_cons_zero, List.set_cons_succ]
          refine wpAnyH_take (i := 4) (oi := { dst := some 85, op := Op.load 3 (Operand.tmp 84), type := 3, pos := "law.go:105", after := #[{ on := 3, ground := Ground.data }], guard := none }) (v := ?_) rfl (by kernel_rfl) (by kernel_rfl) (by kernel_rfl) (fun _ _ _ h => h) (Or.inl ⟨by rfl, ?hy45⟩) hS0 ?_
          case hy45 => (intro V hSw; (try dsimp only at hSw); have q0 := grow_cell hSw.out (block_lt_of_cell t2) t2; have q1 := grow_cell hSw.out (block_lt_of_cell hu0) hu0; have q2 := grow_cell hSw.out (block_lt_of_cell c0) c0; have q3 := grow_cell hSw.out (block_lt_of_cell c1) c1; have q4 := grow_cell hSw.out (block_lt_of_cell c2) c2; have q5 := grow_cell hSw.out (block_lt_of_cell c3) c3; clear hSw; go_simp; try with_reducible rfl)
          try simp only [Act.put, List.setIfInBounds_toArray, List.set_cons_zero, List.set_cons_succ]
          refine wpAnyH_ready (rs := [5]) (by kernel_rfl) (by simp) (AllReadyH.cons rfl (fun K hK => ?_) AllReadyH.nil)
          go_simp
          refine (HHs.out _ hS0.out).mono ?_
          rintro e wv46 ⟨rfl, hv46⟩
          have hS46 := Lib.hid (hS0.out.trans (hv46.mono hS0.out.size))
          clear hv46
          refine hK.out _ _ hS46 (fun _ => ?_)
          clear hK K
          try simp only [Act.put, List.setIfInBounds_toArray, List.set_cons_zero, List.set_cons_succ]
          refine wpAnyH_take (i := 6) (oi := { dst := some 80, op := Op.move (Operand.tmp 86), type := 43, pos := "law.go:105", after := #[{ on := 5, ground := Ground.data }], guard := none }) (v := ?_) rfl (by kernel_rfl) (by kernel_rfl) (by kernel_rfl) (fun _ _ _ h => h) (Or.inl ⟨by rfl, ?hy47⟩) hS46 ?_
          case hy47 => (intro V hSw; (try dsimp only at hSw); clear hSw; go_simp; try with_reducible rfl)
          try simp only [Act.put, List.setIfInBounds_toArray, List.set_cons_zero, List.set_cons_succ]
          refine wpAnyH_take (i := 7) (oi := { dst := some 87, op := Op.extract (Operand.tmp 80) 0, type := 3, pos := "law.go:105", after := #[{ on := 6, ground := Ground.data }], guard := none }) (v := ?_) rfl (by kernel_rfl) (by kernel_rfl) (by kernel_rfl) (fun _ _ _ h => h) (Or.inl ⟨by rfl, ?hy48⟩) hS46 ?_
          case hy48 => (intro V hSw; (try dsimp only at hSw); clear hSw; go_simp; try with_reducible rfl)
          try simp only [Act.put, List.setIfInBounds_toArray, List.set_cons_zero, List.set_cons_succ]
          refine wpAnyH_take (i := 8) (oi := { dst := some 88, op := Op.extract (Operand.tmp 80) 1, type := 4, pos := "law.go:105", after := #[{ on := 6, ground := Ground.data }, { on := 9, ground := Ground.gcOnly Departure.lateStores }], guard := none }) (v := ?_) rfl (by kernel_rfl) (by kernel_rfl) (by kernel_rfl) (fun _ _ _ h => h) (Or.inl ⟨by rfl, ?hy49⟩) hS46 ?_
          case hy49 => (intro V hSw; (try dsimp only at hSw); clear hSw; go_simp; try with_reducible rfl)
          try simp only [Act.put, List.setIfInBounds_toArray, List.set_cons_zero, List.set_cons_succ]
          refine wpAnyH_take (i := 9) (oi := { dst := some 12, op := Op.assign (Operand.tmp 87), type := 3, pos := "law.go:105", after := #[{ on := 7, ground := Ground.data }, { on := 5, ground := Ground.chain }, { on := 0, ground := Ground.phase }, { on := 1, ground := Ground.phase }, { on := 2, ground := Ground.phase }, { on := 3, ground := Ground.phase }, { on := 4, ground := Ground.phase }, { on := 5, ground := Ground.phase }, { on := 6, ground := Ground.phase }, { on := 7, ground := Ground.phase }, { on := 8, ground := Ground.textOnly Departure.lateStores }], guard := none }) (v := ?_) rfl (by kernel_rfl) (by kernel_rfl) (by kernel_rfl) (fun _ _ _ h => h) (Or.inl ⟨by rfl, ?hy50⟩) hS46 ?_
          case hy50 => (intro V hSw; (try dsimp only at hSw); clear hSw; go_simp; try with_reducible rfl)
          try simp only [Act.put, List.setIfInBounds_toArray, List.set_cons_zero, List.set_cons_succ]
          refine wpAnyH_ready (rs := [10]) (by kernel_rfl) (by simp) (AllReadyH.cons rfl (fun K hK => ?_) AllReadyH.nil)
          go_simp
          refine hK.out _ _ hS46 (fun _ => ?_)
          clear hK K
          try simp only [Act.put, List.setIfInBounds_toArray, List.set_cons_zero, List.set_cons_succ]
          refine wpAnyH_done (by kernel_rfl) ?_ _
          skip
          have x0 := (cell_of_blk (blk_bels hS46.out HTB.out) 0).trans (show _ = some (.int .i64 n) from rfl)
          have x1 := (cell_of_blk (blk_bels hS46.out HTB.out) 1).trans (show _ = some (.int .i64 ((n : Int) + 1)) from rfl)
          have x2 := (cell_of_blk (blk_bels hS46.out HTB.out) 2).trans (show _ = some (.slice (some ⟨ub, uoff, none⟩) 1 uc5) from rfl)
          have x3 := (cell_of_blk (blk_bels hS46.out HTB.out) 3).trans (show _ = some (.slice l5 ln5 lc5) from rfl)
          have x4 := (cell_of_blk (blk_bels hS46.out HTB.out) 4).trans (show _ = some (.string pt5) from rfl)
          have Hbv := hS46
          have HC8 := Lib.hid (HC7.out.trans (Hbv.out.mono HC7.out.size))
          obtain ⟨sa, sc, hsl⟩ := Hlev.out n (by omega)
          obtain ⟨hcn, hmr⟩ := hsl _ HC8.out
          clear hsl
          have hni4 : (n : Int) < 4 := by omega
          obtain ⟨K, hK⟩ : ∃ K, K = (U.l n).length := ⟨_, rfl⟩
          rw [← hK] at hcn hmr
          have HK := Lib.hid hK
          have hMx := hmr.1.at
          have HMx := Lib.hid hMx.2.2.2
          have HMr := Lib.hid hmr.2
          have hKm := hMx.2.1
          have hKm2 := hMx.2.2.1
          unfold maxLen at hKm2
          clear hK hMx hmr t0 t1 t2 t3 t4 c0 c1 c2 c3 hu0
          go_wp2_with fail
          go_loopw [102] (fun jv wr => ∃ j : Nat, j ≤ K ∧ jv = .int .i64 j ∧ Below wv46.heap.size wv46 wr) (fun jv _ => K - (intOf jv).toNat)
          case atStart => exact ⟨0, Nat.zero_le _, rfl, Below.refl _ _⟩
          case round =>
            obtain ⟨wq, rfl⟩ : ∃ wq : World, wq = wr := ⟨_, rfl⟩
            obtain ⟨j, hj, rfl, hbq⟩ := hrel
            have Hbq := Lib.hid hbq
            have Hbq7 := Lib.hid (Hbv.out.trans (hbq.mono Hbv.out.size))
            by_cases hjK : j < K
            · obtain ⟨bb, off, rfl, hcell⟩ := HMx.out (by omega)
              obtain ⟨r, hr⟩ : ∃ r, (U.l n)[j]? = some r := ⟨_, List.getElem?_eq_getElem (by rw [← HK.out]; exact hjK)⟩
              obtain ⟨d0, d1, d2, d3, d4, d5, d6, d7, d8⟩ := IsMr.row (w := wq) (fun i x hi j y hj => (hbq.cell (block_lt_of_cell (hcell i x hi j y hj))).trans (hcell i x hi j y hj)) hr
              have hthe : r.1.z = zP → r.1.a.u = (planM U.l n).1.a.u ∧ r.1.b.u = (planM U.l n).1.b.u := fun e => by
                have := plan_the Hver.out hn3 Hlen.out (List.mem_of_getElem? hr) (by rw [e, HzP.out])
                rw [← this]; exact ⟨rfl, rfl⟩
              obtain ⟨mra, mrc, hrv, -, -, -⟩ := HMr.out r (List.mem_of_getElem? hr)
              obtain ⟨⟨mz, mn, ma, mb, refs⟩, vr⟩ := r
              dsimp only at d0 d1 d2 d3 d4 d5 d6 d7 d8 hrv hthe
              have Hthe := Lib.hid hthe
              generalize refs.length = mrn at *
              subst hrv
              have hAl : Below wq.heap.size wq (wq.alloc (.cells #[.int .i64 mz, .int .i64 mn, .string ma.u, .int .i64 ma.s, .int .i64 ma.k, .string mb.u, .int .i64 mb.s, .int .i64 mb.k, .slice mra mrn mrc] 49)) := (Below.refl _ _).alloc (Nat.le_refl _) _
              have HbM := Lib.hid (Hbq7.out.trans (hAl.mono Hbq7.out.size)).drew
              have HbV := Lib.hid (hbq.trans (hAl.mono hbq.size)).drew
              have HM8 := Lib.hid (blk_of_alloc wq (.cells #[.int .i64 mz, .int .i64 mn, .string ma.u, .int .i64 ma.s, .int .i64 ma.k, .string mb.u, .int .i64 mb.s, .int .i64 mb.k, .slice mra mrn mrc] 49))
              have HT8 := Lib.hid (blk_bels (Hbq7.out.trans (hAl.mono Hbq7.out.size)) HTB.out)
              have hu8 := Huc.out _ (Hbq7.out.trans (hAl.mono Hbq7.out.size))
              obtain ⟨mbk, hmbk⟩ : ∃ mb, mb = wq.heap.size := ⟨_, rfl⟩
              have Hmbk := Lib.hid hmbk
              rw [← hmbk] at HM8
              clear hr hcell hbq hmbk hthe hAl
              go_upto_region 18 with fail
              rw [← Hmbk.out]
              generalize wq.alloc (.cells #[.int .i64 mz, .int .i64 mn, .string ma.u, .int .i64 ma.s, .int .i64 ma.k, .string mb.u, .int .i64 mb.s, .int .i64 mb.k, .slice mra mrn mrc] 49) = W8 at *
              clear Hmbk d0 d1 d2 d3 d4 d5 d6 d7 d8
              have g0 := (cell_of_blk HM8.out 0).trans (show _ = some (.int .i64 mz) from rfl)
              have g2 := (cell_of_blk HT8.out 2).trans (show _ = some (.slice (some ⟨ub, uoff, none⟩) 1 uc5) from rfl)
              have HM9 := Lib.hid (drew_blk HM8.out)
              have HT9 := Lib.hid (drew_blk HT8.out)
              clear HM8 HT8
              by_cases hz : mz = zP
              · obtain ⟨hea, heb⟩ := Hthe.out hz
                subst hz
                have Hup0 := Lib.hid (upto_over Hver.out hn3)
                have HV9 := Lib.hid (blk_bels HbM.out HV7.out)
                refine wp_region_held_drew (S := fun V' => Hid (Below W8.heap.size W8 V')) (by kernel_rfl) (Lib.hid ((Below.refl _ _).drew)) (fun hS0 => ?_)
                refine wpAnyH_take (i := 0) (oi := { dst := some 106, op := Op.fieldAddr 49 (Operand.tmp 15) 0, type := 0, pos := "law.go:110", after := #[], guard := none }) (v := ?_) rfl (by kernel_rfl) (by kernel_rfl) (by kernel_rfl) (fun _ _ _ h => h) (Or.inl ⟨by rfl, ?hy51⟩) hS0 ?_
                case hy51 => (intro V hSw; (try dsimp only at hSw); clear hSw; go_simp; try with_reducible rfl)
                try simp only [Act.put, List.setIfInBounds_toArray, List.set_cons_zero, List.set_cons_succ]
                refine wpAnyH_take (i := 1) (oi := { dst := some 107, op := Op.load 3 (Operand.tmp 106), type := 3, pos := "law.go:110", after := #[{ on := 0, ground := Ground.data }], guard := none }) (v := ?_) rfl (by kernel_rfl) (by kernel_rfl) (by kernel_rfl) (fun _ _ _ h => h) (Or.inl ⟨by rfl, ?hy52⟩) hS0 ?_
                case hy52 => (intro V hSw; (try dsimp only at hSw); have q0 := grow_cell hSw.out (block_lt_of_cell g0) g0; have q1 := grow_cell hSw.out (block_lt_of_cell g2) g2; have q2 := grow_cell hSw.out (block_lt_of_cell hu8) hu8; clear hSw; go_simp; try with_reducible rfl)
                try simp only [Act.put, List.setIfInBounds_toArray, List.set_cons_zero, List.set_cons_succ]
                refine wpAnyH_take (i := 2) (oi := { dst := some 108, op := Op.fieldAddr 34 (Operand.tmp 11) 2, type := 0, pos := "law.go:110", after := #[], guard := none }) (v := ?_) rfl (by kernel_rfl) (by kernel_rfl) (by kernel_rfl) (fun _ _ _ h => h) (Or.inl ⟨by rfl, ?hy53⟩) hS0 ?_
                case hy53 => (intro V hSw; (try dsimp only at hSw); clear hSw; go_simp; try with_reducible rfl)
                try simp only [Act.put, List.setIfInBounds_toArray, List.set_cons_zero, List.set_cons_succ]
                refine wpAnyH_take (i := 3) (oi := { dst := some 109, op := Op.load 32 (Operand.tmp 108), type := 32, pos := "law.go:110", after := #[{ on := 2, ground := Ground.data }], guard := none }) (v := ?_) rfl (by kernel_rfl) (by kernel_rfl) (by kernel_rfl) (fun _ _ _ h => h) (Or.inl ⟨by rfl, ?hy54⟩) hS0 ?_
                case hy54 => (intro V hSw; (try dsimp only at hSw); have q0 := grow_cell hSw.out (block_lt_of_cell g0) g0; have q1 := grow_cell hSw.out (block_lt_of_cell g2) g2; have q2 := grow_cell hSw.out (block_lt_of_cell hu8) hu8; clear hSw; go_simp; try with_reducible rfl)
                try simp only [Act.put, List.setIfInBounds_toArray, List.set_cons_zero, List.set_cons_succ]
                refine wpAnyH_take (i := 4) (oi := { dst := some 110, op := Op.indexAddr 32 (Operand.tmp 109) (Operand.const (Value.int IntKind.i64 0)), type := 0, pos := "law.go:110", after := #[{ on := 3, ground := Ground.data }], guard := none }) (v := ?_) rfl (by kernel_rfl) (by kernel_rfl) (by kernel_rfl) (fun _ _ _ h => h) (Or.inl ⟨by rfl, ?hy55⟩) hS0 ?_
                case hy55 => (intro V hSw; (try dsimp only at hSw); clear hSw; go_simp; try with_reducible rfl)
                try simp only [Act.put, List.setIfInBounds_toArray, List.set_cons_zero, List.set_cons_succ]
                refine wpAnyH_take (i := 5) (oi := { dst := some 111, op := Op.load 3 (Operand.tmp 110), type := 3, pos := "law.go:110", after := #[{ on := 4, ground := Ground.data }], guard := none }) (v := ?_) rfl (by kernel_rfl) (by kernel_rfl) (by kernel_rfl) (fun _ _ _ h => h) (Or.inl ⟨by rfl, ?hy56⟩) hS0 ?_
                case hy56 => (intro V hSw; (try dsimp only at hSw); have q0 := grow_cell hSw.out (block_lt_of_cell g0) g0; have q1 := grow_cell hSw.out (block_lt_of_cell g2) g2; have q2 := grow_cell hSw.out (block_lt_of_cell hu8) hu8; clear hSw; go_simp; try with_reducible rfl)
                try simp only [Act.put, List.setIfInBounds_toArray, List.set_cons_zero, List.set_cons_succ]
                refine wpAnyH_take (i := 6) (oi := { dst := some 112, op := Op.binOp BinOp.neq 3 (Operand.tmp 107) (Operand.tmp 111) 3, type := 4, pos := "law.go:110", after := #[{ on := 1, ground := Ground.data }, { on := 5, ground := Ground.data }], guard := none }) (v := ?_) rfl (by kernel_rfl) (by kernel_rfl) (by kernel_rfl) (fun _ _ _ h => h) (Or.inl ⟨by rfl, ?hy57⟩) hS0 ?_
                case hy57 => (intro V hSw; (try dsimp only at hSw); clear hSw; go_simp; try with_reducible rfl)
                try simp only [Act.put, List.setIfInBounds_toArray, List.set_cons_zero, List.set_cons_succ]
                refine wpAnyH_done (by kernel_rfl) ?_ _
                generalize W8.drew = W9 at *
                clear g0 g2 hu8 hS0
                have m2 := (cell_of_blk HM9.out 2).trans (show _ = some (.string ma.u) from rfl)
                have m5 := (cell_of_blk HM9.out 5).trans (show _ = some (.string mb.u) from rfl)
                have t1 := (cell_of_blk HT9.out 1).trans (show _ = some (.int .i64 ((n : Int) + 1)) from rfl)
                have t4 := (cell_of_blk HT9.out 4).trans (show _ = some (.string pt5) from rfl)
                have c0 := (cell_of_blk HV9.out 0).trans (show _ = some (.slice va0 vn0 vc0) from rfl)
                have c1 := (cell_of_blk HV9.out 1).trans (show _ = some (.slice va1 vn1 vc1) from rfl)
                have c2 := (cell_of_blk HV9.out 2).trans (show _ = some (.slice va2 vn2 vc2) from rfl)
                have c3 := (cell_of_blk HV9.out 3).trans (show _ = some (.slice va3 vn3 vc3) from rfl)
                by_cases hpt0 : pt5 = ⟨#[]⟩
                · have hup := Hup0.out
                  rw [← Hpt.out, if_pos hpt0, ← hea, ← heb] at hup
                  have Hup := Lib.hid hup
                  clear hup hea heb
                  subst hpt0
                  go_wp2_with fail
                  refine (HOv.out _ _ _ _ (HC7.out.trans (HbM.out.mono HC7.out.size))).mono ?_
                  rintro e wb ⟨x2, rws2, rfl, hown, hrw, hbb⟩
                  have Hrw := Lib.hid (hrw.trans Hup.out)
                  obtain ⟨ya, yc, rfl⟩ := own_slice hown.1
                  obtain ⟨-, hyc, hym, hyx⟩ := hown.isMr.1.at
                  have Hyx := Lib.hid hyx
                  have Hrr := Lib.hid hown.isMr.2
                  have hm : rws2.length = ln5 := by
                    have := congrArg List.length Hrw.out
                    rw [List.length_map] at this
                    rw [this, Hln.out, Hll.out, List.length_map]
                  rw [hm] at hyc Hyx ⊢
                  have Hm := Lib.hid hm
                  have HbB := Lib.hid (HbM.out.trans (hbb.mono HbM.out.size))
                  have HbVb := Lib.hid (HbV.out.trans (hbb.mono HbV.out.size))
                  have HTb := Lib.hid (blk_bels HbB.out HTB.out)
                  clear hown hrw hbb hyx hm m2 m5 t1 t4 c0 c1 c2 c3
                  have t3 := (cell_of_blk HTb.out 3).trans (show _ = some (.slice l5 ln5 lc5) from rfl)
                  go_wp2_with fail
                  clear t3
                  go_loopw [137] (fun iv wr => ∃ i3 : Nat, i3 ≤ ln5 ∧ iv = .int .i64 i3 ∧ Below wb.heap.size wb wr) (fun iv _ => ln5 - (intOf iv).toNat)
                  case atStart => exact ⟨0, Nat.zero_le _, rfl, Below.refl _ _⟩
                  case round =>
                    obtain ⟨wq3, rfl⟩ : ∃ wq3 : World, wq3 = wr := ⟨_, rfl⟩
                    obtain ⟨i3, hi3, rfl, hb3⟩ := hrel
                    by_cases him : i3 < ln5
                    · obtain ⟨bb3, off3, rfl, hcell⟩ := Hyx.out (by omega)
                      obtain ⟨r3, hr3⟩ : ∃ r, rws2[i3]? = some r := ⟨_, List.getElem?_eq_getElem (by rw [Hm.out]; exact him)⟩
                      obtain ⟨d0, d1, d2, d3, d4, d5, d6, d7, d8⟩ := IsMr.row (w := wq3) (fun i x hi j y hj => (hb3.cell (block_lt_of_cell (hcell i x hi j y hj))).trans (hcell i x hi j y hj)) hr3
                      obtain ⟨yra, yrc, hrv, -, -, -⟩ := Hrr.out r3 (List.mem_of_getElem? hr3)
                      have hlow : pl5[i3]? = some r3.1.z := by
                        have : (rws2.map (·.1))[i3]? = some r3.1 := by rw [List.getElem?_map, hr3]; rfl
                        rw [Hrw.out] at this
                        rw [Hll.out, List.getElem?_map, this]; rfl
                      obtain ⟨lb, loff, hle, hlc⟩ := isDz_at HLw.out (by omega)
                      have hA3 := HbB.out.trans (hb3.mono HbB.out.size)
                      have HT3 := Lib.hid (blk_bels hA3 HTB.out)
                      obtain ⟨⟨yz, yn, ya', yb', refs⟩, vr⟩ := r3
                      dsimp only at d0 d1 d2 d3 d4 d5 d6 d7 d8 hrv hlow
                      generalize refs.length = yrn at *
                      subst hrv
                      have hAl : Below wq3.heap.size wq3 (wq3.alloc (.cells #[.int .i64 yz, .int .i64 yn, .string ya'.u, .int .i64 ya'.s, .int .i64 ya'.k, .string yb'.u, .int .i64 yb'.s, .int .i64 yb'.k, .slice yra yrn yrc] 49)) := (Below.refl _ _).alloc (Nat.le_refl _) _
                      have hl0 := hlc _ (hA3.trans (hAl.mono hA3.size)) _ _ hlow
                      have HAl := Lib.hid (hb3.trans (hAl.mono hb3.size))
                      have HM3 := Lib.hid (blk_of_alloc wq3 (.cells #[.int .i64 yz, .int .i64 yn, .string ya'.u, .int .i64 ya'.s, .int .i64 ya'.k, .string yb'.u, .int .i64 yb'.s, .int .i64 yb'.k, .slice yra yrn yrc] 49))
                      have HT3' := Lib.hid (blk_bels hAl HT3.out)
                      rw [hle] at HT3'
                      obtain ⟨mb3, hmb3⟩ : ∃ mb, mb = wq3.heap.size := ⟨_, rfl⟩
                      have Hmb3 := Lib.hid hmb3
                      rw [← hmb3] at HM3
                      have hi3n : (i3 : Int) < (ln5 : Int) := by omega
                      clear hr3 hcell hmb3 hA3 hlc hlow HT3 hAl hb3 hle
                      go_upto_region 28 with fail
                      rw [← Hmb3.out]
                      generalize wq3.alloc (.cells #[.int .i64 yz, .int .i64 yn, .string ya'.u, .int .i64 ya'.s, .int .i64 ya'.k, .string yb'.u, .int .i64 yb'.s, .int .i64 yb'.k, .slice yra yrn yrc] 49) = Wx at *
                      clear Hmb3 d0 d1 d2 d3 d4 d5 d6 d7 d8
                      have g0 := (cell_of_blk HM3.out 0).trans (show _ = some (.int .i64 yz) from rfl)
                      have g3 := (cell_of_blk HT3'.out 3).trans (show _ = some (.slice (some ⟨lb, loff, none⟩) ln5 lc5) from rfl)
                      have HAd := Lib.hid HAl.out.drew
                      refine wp_region_held_drew (S := fun V' => Hid (Below Wx.heap.size Wx V')) (by kernel_rfl) (Lib.hid ((Below.refl _ _).drew)) (fun hS0 => ?_)
                      refine wpAnyH_take (i := 0) (oi := { dst := some 142, op := Op.fieldAddr 49 (Operand.tmp 19) 0, type := 0, pos := "law.go:122", after := #[], guard := none }) (v := ?_) rfl (by kernel_rfl) (by kernel_rfl) (by kernel_rfl) (fun _ _ _ h => h) (Or.inl ⟨by rfl, ?hy58⟩) hS0 ?_
                      case hy58 => (intro V hSw; (try dsimp only at hSw); clear hSw; go_simp; try with_reducible rfl)
                      try simp only [Act.put, List.setIfInBounds_toArray, List.set_cons_zero, List.set_cons_succ]
                      refine wpAnyH_take (i := 1) (oi := { dst := some 143, op := Op.load 3 (Operand.tmp 142), type := 3, pos := "law.go:122", after := #[{ on := 0, ground := Ground.data }], guard := none }) (v := ?_) rfl (by kernel_rfl) (by kernel_rfl) (by kernel_rfl) (fun _ _ _ h => h) (Or.inl ⟨by rfl, ?hy59⟩) hS0 ?_
                      case hy59 => (intro V hSw; (try dsimp only at hSw); have q0 := grow_cell hSw.out (block_lt_of_cell g0) g0; have q1 := grow_cell hSw.out (block_lt_of_cell g3) g3; have q2 := grow_cell hSw.out (block_lt_of_cell hl0) hl0; clear hSw; go_simp; try with_reducible rfl)
                      try simp only [Act.put, List.setIfInBounds_toArray, List.set_cons_zero, List.set_cons_succ]
                      refine wpAnyH_take (i := 2) (oi := { dst := some 144, op := Op.fieldAddr 34 (Operand.tmp 11) 3, type := 0, pos := "law.go:122", after := #[], guard := none }) (v := ?_) rfl (by kernel_rfl) (by kernel_rfl) (by kernel_rfl) (fun _ _ _ h => h) (Or.inl ⟨by rfl, ?hy60⟩) hS0 ?_
                      case hy60 => (intro V hSw; (try dsimp only at hSw); clear hSw; go_simp; try with_reducible rfl)
                      try simp only [Act.put, List.setIfInBounds_toArray, List.set_cons_zero, List.set_cons_succ]
                      refine wpAnyH_take (i := 3) (oi := { dst := some 145, op := Op.load 32 (Operand.tmp 144), type := 32, pos := "law.go:122", after := #[{ on := 2, ground := Ground.data }], guard := none }) (v := ?_) rfl (by kernel_rfl) (by kernel_rfl) (by kernel_rfl) (fun _ _ _ h => h) (Or.inl ⟨by rfl, ?hy61⟩) hS0 ?_
                      case hy61 => (intro V hSw; (try dsimp only at hSw); have q0 := grow_cell hSw.out (block_lt_of_cell g0) g0; have q1 := grow_cell hSw.out (block_lt_of_cell g3) g3; have q2 := grow_cell hSw.out (block_lt_of_cell hl0) hl0; clear hSw; go_simp; try with_reducible rfl)
                      try simp only [Act.put, List.setIfInBounds_toArray, List.set_cons_zero, List.set_cons_succ]
                      refine wpAnyH_take (i := 4) (oi := { dst := some 146, op := Op.move (Operand.tmp 18), type := 3, pos := "law.go:122", after := #[], guard := none }) (v := ?_) rfl (by kernel_rfl) (by kernel_rfl) (by kernel_rfl) (fun _ _ _ h => h) (Or.inl ⟨by rfl, ?hy62⟩) hS0 ?_
                      case hy62 => (intro V hSw; (try dsimp only at hSw); clear hSw; go_simp; try with_reducible rfl)
                      try simp only [Act.put, List.setIfInBounds_toArray, List.set_cons_zero, List.set_cons_succ]
                      refine wpAnyH_take (i := 5) (oi := { dst := some 147, op := Op.indexAddr 32 (Operand.tmp 145) (Operand.tmp 146), type := 0, pos := "law.go:122", after := #[{ on := 3, ground := Ground.data }, { on := 4, ground := Ground.data }], guard := none }) (v := ?_) rfl (by kernel_rfl) (by kernel_rfl) (by kernel_rfl) (fun _ _ _ h => h) (Or.inl ⟨by rfl, ?hy63⟩) hS0 ?_
                      case hy63 => (intro V hSw; (try dsimp only at hSw); clear hSw; go_simp; try with_reducible rfl)
                      try simp only [Act.put, List.setIfInBounds_toArray, List.set_cons_zero, List.set_cons_succ]
                      refine wpAnyH_take (i := 6) (oi := { dst := some 148, op := Op.load 3 (Operand.tmp 147), type := 3, pos := "law.go:122", after := #[{ on := 5, ground := Ground.data }], guard := none }) (v := ?_) rfl (by kernel_rfl) (by kernel_rfl) (by kernel_rfl) (fun _ _ _ h => h) (Or.inl ⟨by rfl, ?hy64⟩) hS0 ?_
                      case hy64 => (intro V hSw; (try dsimp only at hSw); have q0 := grow_cell hSw.out (block_lt_of_cell g0) g0; have q1 := grow_cell hSw.out (block_lt_of_cell g3) g3; have q2 := grow_cell hSw.out (block_lt_of_cell hl0) hl0; clear hSw; go_simp; try with_reducible rfl)
                      try simp only [Act.put, List.setIfInBounds_toArray, List.set_cons_zero, List.set_cons_succ]
                      refine wpAnyH_take (i := 7) (oi := { dst := some 149, op := Op.binOp BinOp.neq 3 (Operand.tmp 143) (Operand.tmp 148) 3, type := 4, pos := "law.go:122", after := #[{ on := 1, ground := Ground.data }, { on := 6, ground := Ground.data }], guard := none }) (v := ?_) rfl (by kernel_rfl) (by kernel_rfl) (by kernel_rfl) (fun _ _ _ h => h) (Or.inl ⟨by rfl, ?hy65⟩) hS0 ?_
                      case hy65 => (intro V hSw; (try dsimp only at hSw); clear hSw; go_simp; try with_reducible rfl)
                      try simp only [Act.put, List.setIfInBounds_toArray, List.set_cons_zero, List.set_cons_succ]
                      refine wpAnyH_done (by kernel_rfl) ?_ _
                      generalize Wx.drew = Wy at *
                      clear g0 g3 hl0 hS0
                      go_wp2_with fail
                      go_roundw
                      case rel => exact ⟨i3 + 1, by omega, by go_num, HAd.out⟩
                      case measure => simp [intOf]; omega
                    · obtain rfl : i3 = ln5 := by omega
                      have HbE := Lib.hid (HbVb.out.trans (hb3.mono HbVb.out.size))
                      clear hb3
                      go_wp2_with fail
                      go_roundw
                      case rel => exact ⟨j + 1, by omega, by go_num, HbE.out⟩
                      case measure => simp [intOf]; omega
                · have hup := Hup0.out
                  rw [← Hpt.out, if_neg hpt0, ← hea] at hup
                  have Hup := Lib.hid hup
                  have hie : pt5.toList.isEmpty = false := by
                    cases hq : pt5.toList.isEmpty with
                    | false => rfl
                    | true =>
                      exfalso; apply hpt0; apply ba_ext
                      rw [List.isEmpty_iff] at hq
                      rw [← toList_eq, hq]
                  clear hup hea heb hpt0
                  go_wp2_with fail
                  refine (HOv.out _ _ _ _ (HC7.out.trans (HbM.out.mono HC7.out.size))).mono ?_
                  rintro e wb ⟨x2, rws2, rfl, hown, hrw, hbb⟩
                  have Hrw := Lib.hid (hrw.trans Hup.out)
                  obtain ⟨ya, yc, rfl⟩ := own_slice hown.1
                  obtain ⟨-, hyc, hym, hyx⟩ := hown.isMr.1.at
                  have Hyx := Lib.hid hyx
                  have Hrr := Lib.hid hown.isMr.2
                  have hm : rws2.length = ln5 := by
                    have := congrArg List.length Hrw.out
                    rw [List.length_map] at this
                    rw [this, Hln.out, Hll.out, List.length_map]
                  rw [hm] at hyc Hyx ⊢
                  have Hm := Lib.hid hm
                  have HbB := Lib.hid (HbM.out.trans (hbb.mono HbM.out.size))
                  have HbVb := Lib.hid (HbV.out.trans (hbb.mono HbV.out.size))
                  have HTb := Lib.hid (blk_bels HbB.out HTB.out)
                  clear hown hrw hbb hyx hm m2 m5 t1 t4 c0 c1 c2 c3
                  have t3 := (cell_of_blk HTb.out 3).trans (show _ = some (.slice l5 ln5 lc5) from rfl)
                  go_wp2_with fail
                  clear t3
                  go_loopw [137] (fun iv wr => ∃ i3 : Nat, i3 ≤ ln5 ∧ iv = .int .i64 i3 ∧ Below wb.heap.size wb wr) (fun iv _ => ln5 - (intOf iv).toNat)
                  case atStart => exact ⟨0, Nat.zero_le _, rfl, Below.refl _ _⟩
                  case round =>
                    obtain ⟨wq3, rfl⟩ : ∃ wq3 : World, wq3 = wr := ⟨_, rfl⟩
                    obtain ⟨i3, hi3, rfl, hb3⟩ := hrel
                    by_cases him : i3 < ln5
                    · obtain ⟨bb3, off3, rfl, hcell⟩ := Hyx.out (by omega)
                      obtain ⟨r3, hr3⟩ : ∃ r, rws2[i3]? = some r := ⟨_, List.getElem?_eq_getElem (by rw [Hm.out]; exact him)⟩
                      obtain ⟨d0, d1, d2, d3, d4, d5, d6, d7, d8⟩ := IsMr.row (w := wq3) (fun i x hi j y hj => (hb3.cell (block_lt_of_cell (hcell i x hi j y hj))).trans (hcell i x hi j y hj)) hr3
                      obtain ⟨yra, yrc, hrv, -, -, -⟩ := Hrr.out r3 (List.mem_of_getElem? hr3)
                      have hlow : pl5[i3]? = some r3.1.z := by
                        have : (rws2.map (·.1))[i3]? = some r3.1 := by rw [List.getElem?_map, hr3]; rfl
                        rw [Hrw.out] at this
                        rw [Hll.out, List.getElem?_map, this]; rfl
                      obtain ⟨lb, loff, hle, hlc⟩ := isDz_at HLw.out (by omega)
                      have hA3 := HbB.out.trans (hb3.mono HbB.out.size)
                      have HT3 := Lib.hid (blk_bels hA3 HTB.out)
                      obtain ⟨⟨yz, yn, ya', yb', refs⟩, vr⟩ := r3
                      dsimp only at d0 d1 d2 d3 d4 d5 d6 d7 d8 hrv hlow
                      generalize refs.length = yrn at *
                      subst hrv
                      have hAl : Below wq3.heap.size wq3 (wq3.alloc (.cells #[.int .i64 yz, .int .i64 yn, .string ya'.u, .int .i64 ya'.s, .int .i64 ya'.k, .string yb'.u, .int .i64 yb'.s, .int .i64 yb'.k, .slice yra yrn yrc] 49)) := (Below.refl _ _).alloc (Nat.le_refl _) _
                      have hl0 := hlc _ (hA3.trans (hAl.mono hA3.size)) _ _ hlow
                      have HAl := Lib.hid (hb3.trans (hAl.mono hb3.size))
                      have HM3 := Lib.hid (blk_of_alloc wq3 (.cells #[.int .i64 yz, .int .i64 yn, .string ya'.u, .int .i64 ya'.s, .int .i64 ya'.k, .string yb'.u, .int .i64 yb'.s, .int .i64 yb'.k, .slice yra yrn yrc] 49))
                      have HT3' := Lib.hid (blk_bels hAl HT3.out)
                      rw [hle] at HT3'
                      obtain ⟨mb3, hmb3⟩ : ∃ mb, mb = wq3.heap.size := ⟨_, rfl⟩
                      have Hmb3 := Lib.hid hmb3
                      rw [← hmb3] at HM3
                      have hi3n : (i3 : Int) < (ln5 : Int) := by omega
                      clear hr3 hcell hmb3 hA3 hlc hlow HT3 hAl hb3 hle
                      go_upto_region 28 with fail
                      rw [← Hmb3.out]
                      generalize wq3.alloc (.cells #[.int .i64 yz, .int .i64 yn, .string ya'.u, .int .i64 ya'.s, .int .i64 ya'.k, .string yb'.u, .int .i64 yb'.s, .int .i64 yb'.k, .slice yra yrn yrc] 49) = Wx at *
                      clear Hmb3 d0 d1 d2 d3 d4 d5 d6 d7 d8
                      have g0 := (cell_of_blk HM3.out 0).trans (show _ = some (.int .i64 yz) from rfl)
                      have g3 := (cell_of_blk HT3'.out 3).trans (show _ = some (.slice (some ⟨lb, loff, none⟩) ln5 lc5) from rfl)
                      have HAd := Lib.hid HAl.out.drew
                      refine wp_region_held_drew (S := fun V' => Hid (Below Wx.heap.size Wx V')) (by kernel_rfl) (Lib.hid ((Below.refl _ _).drew)) (fun hS0 => ?_)
                      refine wpAnyH_take (i := 0) (oi := { dst := some 142, op := Op.fieldAddr 49 (Operand.tmp 19) 0, type := 0, pos := "law.go:122", after := #[], guard := none }) (v := ?_) rfl (by kernel_rfl) (by kernel_rfl) (by kernel_rfl) (fun _ _ _ h => h) (Or.inl ⟨by rfl, ?hy66⟩) hS0 ?_
                      case hy66 => (intro V hSw; (try dsimp only at hSw); clear hSw; go_simp; try with_reducible rfl)
                      try simp only [Act.put, List.setIfInBounds_toArray, List.set_cons_zero, List.set_cons_succ]
                      refine wpAnyH_take (i := 1) (oi := { dst := some 143, op := Op.load 3 (Operand.tmp 142), type := 3, pos := "law.go:122", after := #[{ on := 0, ground := Ground.data }], guard := none }) (v := ?_) rfl (by kernel_rfl) (by kernel_rfl) (by kernel_rfl) (fun _ _ _ h => h) (Or.inl ⟨by rfl, ?hy67⟩) hS0 ?_
                      case hy67 => (intro V hSw; (try dsimp only at hSw); have q0 := grow_cell hSw.out (block_lt_of_cell g0) g0; have q1 := grow_cell hSw.out (block_lt_of_cell g3) g3; have q2 := grow_cell hSw.out (block_lt_of_cell hl0) hl0; clear hSw; go_simp; try with_reducible rfl)
                      try simp only [Act.put, List.setIfInBounds_toArray, List.set_cons_zero, List.set_cons_succ]
                      refine wpAnyH_take (i := 2) (oi := { dst := some 144, op := Op.fieldAddr 34 (Operand.tmp 11) 3, type := 0, pos := "law.go:122", after := #[], guard := none }) (v := ?_) rfl (by kernel_rfl) (by kernel_rfl) (by kernel_rfl) (fun _ _ _ h => h) (Or.inl ⟨by rfl, ?hy68⟩) hS0 ?_
                      case hy68 => (intro V hSw; (try dsimp only at hSw); clear hSw; go_simp; try with_reducible rfl)
                      try simp only [Act.put, List.setIfInBounds_toArray, List.set_cons_zero, List.set_cons_succ]
                      refine wpAnyH_take (i := 3) (oi := { dst := some 145, op := Op.load 32 (Operand.tmp 144), type := 32, pos := "law.go:122", after := #[{ on := 2, ground := Ground.data }], guard := none }) (v := ?_) rfl (by kernel_rfl) (by kernel_rfl) (by kernel_rfl) (fun _ _ _ h => h) (Or.inl ⟨by rfl, ?hy69⟩) hS0 ?_
                      case hy69 => (intro V hSw; (try dsimp only at hSw); have q0 := grow_cell hSw.out (block_lt_of_cell g0) g0; have q1 := grow_cell hSw.out (block_lt_of_cell g3) g3; have q2 := grow_cell hSw.out (block_lt_of_cell hl0) hl0; clear hSw; go_simp; try with_reducible rfl)
                      try simp only [Act.put, List.setIfInBounds_toArray, List.set_cons_zero, List.set_cons_succ]
                      refine wpAnyH_take (i := 4) (oi := { dst := some 146, op := Op.move (Operand.tmp 18), type := 3, pos := "law.go:122", after := #[], guard := none }) (v := ?_) rfl (by kernel_rfl) (by kernel_rfl) (by kernel_rfl) (fun _ _ _ h => h) (Or.inl ⟨by rfl, ?hy70⟩) hS0 ?_
                      case hy70 => (intro V hSw; (try dsimp only at hSw); clear hSw; go_simp; try with_reducible rfl)
                      try simp only [Act.put, List.setIfInBounds_toArray, List.set_cons_zero, List.set_cons_succ]
                      refine wpAnyH_take (i := 5) (oi := { dst := some 147, op := Op.indexAddr 32 (Operand.tmp 145) (Operand.tmp 146), type := 0, pos := "law.go:122", after := #[{ on := 3, ground := Ground.data }, { on := 4, ground := Ground.data }], guard := none }) (v := ?_) rfl (by kernel_rfl) (by kernel_rfl) (by kernel_rfl) (fun _ _ _ h => h) (Or.inl ⟨by rfl, ?hy71⟩) hS0 ?_
                      case hy71 => (intro V hSw; (try dsimp only at hSw); clear hSw; go_simp; try with_reducible rfl)
                      try simp only [Act.put, List.setIfInBounds_toArray, List.set_cons_zero, List.set_cons_succ]
                      refine wpAnyH_take (i := 6) (oi := { dst := some 148, op := Op.load 3 (Operand.tmp 147), type := 3, pos := "law.go:122", after := #[{ on := 5, ground := Ground.data }], guard := none }) (v := ?_) rfl (by kernel_rfl) (by kernel_rfl) (by kernel_rfl) (fun _ _ _ h => h) (Or.inl ⟨by rfl, ?hy72⟩) hS0 ?_
                      case hy72 => (intro V hSw; (try dsimp only at hSw); have q0 := grow_cell hSw.out (block_lt_of_cell g0) g0; have q1 := grow_cell hSw.out (block_lt_of_cell g3) g3; have q2 := grow_cell hSw.out (block_lt_of_cell hl0) hl0; clear hSw; go_simp; try with_reducible rfl)
                      try simp only [Act.put, List.setIfInBounds_toArray, List.set_cons_zero, List.set_cons_succ]
                      refine wpAnyH_take (i := 7) (oi := { dst := some 149, op := Op.binOp BinOp.neq 3 (Operand.tmp 143) (Operand.tmp 148) 3, type := 4, pos := "law.go:122", after := #[{ on := 1, ground := Ground.data }, { on := 6, ground := Ground.data }], guard := none }) (v := ?_) rfl (by kernel_rfl) (by kernel_rfl) (by kernel_rfl) (fun _ _ _ h => h) (Or.inl ⟨by rfl, ?hy73⟩) hS0 ?_
                      case hy73 => (intro V hSw; (try dsimp only at hSw); clear hSw; go_simp; try with_reducible rfl)
                      try simp only [Act.put, List.setIfInBounds_toArray, List.set_cons_zero, List.set_cons_succ]
                      refine wpAnyH_done (by kernel_rfl) ?_ _
                      generalize Wx.drew = Wy at *
                      clear g0 g3 hl0 hS0
                      go_wp2_with fail
                      go_roundw
                      case rel => exact ⟨i3 + 1, by omega, by go_num, HAd.out⟩
                      case measure => simp [intOf]; omega
                    · obtain rfl : i3 = ln5 := by omega
                      have HbE := Lib.hid (HbVb.out.trans (hb3.mono HbVb.out.size))
                      clear hb3
                      go_wp2_with fail
                      go_roundw
                      case rel => exact ⟨j + 1, by omega, by go_num, HbE.out⟩
                      case measure => simp [intOf]; omega
              · skip
                refine wp_region_held_drew (S := fun V' => Hid (Below W8.heap.size W8 V')) (by kernel_rfl) (Lib.hid ((Below.refl _ _).drew)) (fun hS0 => ?_)
                refine wpAnyH_take (i := 0) (oi := { dst := some 106, op := Op.fieldAddr 49 (Operand.tmp 15) 0, type := 0, pos := "law.go:110", after := #[], guard := none }) (v := ?_) rfl (by kernel_rfl) (by kernel_rfl) (by kernel_rfl) (fun _ _ _ h => h) (Or.inl ⟨by rfl, ?hy74⟩) hS0 ?_
                case hy74 => (intro V hSw; (try dsimp only at hSw); clear hSw; go_simp; try with_reducible rfl)
                try simp only [Act.put, List.setIfInBounds_toArray, List.set_cons_zero, List.set_cons_succ]
                refine wpAnyH_take (i := 1) (oi := { dst := some 107, op := Op.load 3 (Operand.tmp 106), type := 3, pos := "law.go:110", after := #[{ on := 0, ground := Ground.data }], guard := none }) (v := ?_) rfl (by kernel_rfl) (by kernel_rfl) (by kernel_rfl) (fun _ _ _ h => h) (Or.inl ⟨by rfl, ?hy75⟩) hS0 ?_
                case hy75 => (intro V hSw; (try dsimp only at hSw); have q0 := grow_cell hSw.out (block_lt_of_cell g0) g0; have q1 := grow_cell hSw.out (block_lt_of_cell g2) g2; have q2 := grow_cell hSw.out (block_lt_of_cell hu8) hu8; clear hSw; go_simp; try with_reducible rfl)
                try simp only [Act.put, List.setIfInBounds_toArray, List.set_cons_zero, List.set_cons_succ]
                refine wpAnyH_take (i := 2) (oi := { dst := some 108, op := Op.fieldAddr 34 (Operand.tmp 11) 2, type := 0, pos := "law.go:110", after := #[], guard := none }) (v := ?_) rfl (by kernel_rfl) (by kernel_rfl) (by kernel_rfl) (fun _ _ _ h => h) (Or.inl ⟨by rfl, ?hy76⟩) hS0 ?_
                case hy76 => (intro V hSw; (try dsimp only at hSw); clear hSw; go_simp; try with_reducible rfl)
                try simp only [Act.put, List.setIfInBounds_toArray, List.set_cons_zero, List.set_cons_succ]
                refine wpAnyH_take (i := 3) (oi := { dst := some 109, op := Op.load 32 (Operand.tmp 108), type := 32, pos := "law.go:110", after := #[{ on := 2, ground := Ground.data }], guard := none }) (v := ?_) rfl (by kernel_rfl) (by kernel_rfl) (by kernel_rfl) (fun _ _ _ h => h) (Or.inl ⟨by rfl, ?hy77⟩) hS0 ?_
                case hy77 => (intro V hSw; (try dsimp only at hSw); have q0 := grow_cell hSw.out (block_lt_of_cell g0) g0; have q1 := grow_cell hSw.out (block_lt_of_cell g2) g2; have q2 := grow_cell hSw.out (block_lt_of_cell hu8) hu8; clear hSw; go_simp; try with_reducible rfl)
                try simp only [Act.put, List.setIfInBounds_toArray, List.set_cons_zero, List.set_cons_succ]
                refine wpAnyH_take (i := 4) (oi := { dst := some 110, op := Op.indexAddr 32 (Operand.tmp 109) (Operand.const (Value.int IntKind.i64 0)), type := 0, pos := "law.go:110", after := #[{ on := 3, ground := Ground.data }], guard := none }) (v := ?_) rfl (by kernel_rfl) (by kernel_rfl) (by kernel_rfl) (fun _ _ _ h => h) (Or.inl ⟨by rfl, ?hy78⟩) hS0 ?_
                case hy78 => (intro V hSw; (try dsimp only at hSw); clear hSw; go_simp; try with_reducible rfl)
                try simp only [Act.put, List.setIfInBounds_toArray, List.set_cons_zero, List.set_cons_succ]
                refine wpAnyH_take (i := 5) (oi := { dst := some 111, op := Op.load 3 (Operand.tmp 110), type := 3, pos := "law.go:110", after := #[{ on := 4, ground := Ground.data }], guard := none }) (v := ?_) rfl (by kernel_rfl) (by kernel_rfl) (by kernel_rfl) (fun _ _ _ h => h) (Or.inl ⟨by rfl, ?hy79⟩) hS0 ?_
                case hy79 => (intro V hSw; (try dsimp only at hSw); have q0 := grow_cell hSw.out (block_lt_of_cell g0) g0; have q1 := grow_cell hSw.out (block_lt_of_cell g2) g2; have q2 := grow_cell hSw.out (block_lt_of_cell hu8) hu8; clear hSw; go_simp; try with_reducible rfl)
                try simp only [Act.put, List.setIfInBounds_toArray, List.set_cons_zero, List.set_cons_succ]
                refine wpAnyH_take (i := 6) (oi := { dst := some 112, op := Op.binOp BinOp.neq 3 (Operand.tmp 107) (Operand.tmp 111) 3, type := 4, pos := "law.go:110", after := #[{ on := 1, ground := Ground.data }, { on := 5, ground := Ground.data }], guard := none }) (v := ?_) rfl (by kernel_rfl) (by kernel_rfl) (by kernel_rfl) (fun _ _ _ h => h) (Or.inl ⟨by rfl, ?hy80⟩) hS0 ?_
                case hy80 => (intro V hSw; (try dsimp only at hSw); clear hSw; go_simp; try with_reducible rfl)
                try simp only [Act.put, List.setIfInBounds_toArray, List.set_cons_zero, List.set_cons_succ]
                refine wpAnyH_done (by kernel_rfl) ?_ _
                generalize W8.drew = W9 at *
                clear g0 g2 hu8 hS0
                go_wp2_with fail
                go_roundw
                case rel => exact ⟨j + 1, by omega, by go_num, HbV.out⟩
                case measure => simp [intOf]; omega
            · obtain rfl : j = K := by omega
              have Hbe := Lib.hid (Hb7.out.trans (Hbq7.out.mono Hb7.out.size))
              clear hbq
              go_wp2_with fail
              go_roundw
              case rel => exact ⟨2, .inr (.inr rfl), rfl, Hbe.out⟩
              case measure => simp [intOf]
      · have HbZ := Lib.hid (HB.out.trans ((HC6.out.trans (Hb.out.mono HC6.out.size)).mono HB.out.size))
        have Htz := Lib.hid (Ht3.out.below (HC6.out.trans (Hb.out.mono HC6.out.size)))
        go_wp2_with fail
        refine (awake17_any _ Htz.out).mono ?_
        rintro e wz ⟨rfl, hbz⟩
        have Hbz := Lib.hid (HbZ.out.trans (hbz.mono HbZ.out.size))
        clear hbz
        go_wp2_with fail
        go_ret
        exact ⟨rfl, Hbz.out⟩
end Go.Proofs.YtcmndnglmpkpdaaDoor.Tithe
