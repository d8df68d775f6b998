/- THE LAW PickPlans: walked. -/
import Derived.Test.YtcmndnglmpkpdaaDoorPickFull
import Derived.Test.YtcmndnglmpkpdaaDoorPickRNP
namespace Go.Proofs.YtcmndnglmpkpdaaDoor.Tithe
open Go.RowKit Go.Sort Go.Shelf
set_option linter.unusedVariables false
set_option linter.unusedSimpArgs false
set_option maxRecDepth 100000
def ptabQ (lv : Int) (sm lg : ByteArray) (p : Nat × Mt) : Bool := decide ((p.1 : Int) = lv) && (decide (cmpB sm lg ≤ 0) && (decide (cmpB p.2.a.u lg ≤ 0) && decide (cmpB sm p.2.b.u ≤ 0)))
theorem over_ptabQ (l : Nat → List Mr) (lv : Int) (sm lg : ByteArray) : ((tabs l 4).filter (overB lv sm lg)).map (·.2.1) = ((ptab l 4).filter (ptabQ lv sm lg)).map (·.2) := by
  unfold ptab
  rw [List.filter_map, List.map_map]
  rfl
theorem planM_lv (l : Nat → List Mr) (n : Nat) : (planM l n).1 = (lvOf l n).getD (if n = 0 then (lvOf l 0).length - 1 else 0) Mt.nil := by
  unfold planM lvOf
  rw [List.length_map, List.getD_eq_getElem?_getD, List.getD_eq_getElem?_getD, List.getElem?_map]
  cases (l n)[if n = 0 then (l 0).length - 1 else 0]? <;> rfl
theorem planP_congr {l l' : Nat → List Mr} (h : LvE (lvOf l) (lvOf l')) {n : Nat} (hn : n < 4) : planP l n = planP l' n := by
  have h1 : (planM l n).1 = (planM l' n).1 := by rw [planM_lv, planM_lv, h n hn, h 0 (by omega)]
  have h2 : planO l n = planO l' n := by
    unfold planO
    rw [over_ptabQ, over_ptabQ, h1, ptab_congr 4 h]
  unfold planP
  rw [h1, h2]
theorem len_lv {l l' : Nat → List Mr} (h : LvE (lvOf l) (lvOf l')) {n : Nat} (hn : n < 4) : (l n).length = (l' n).length := by
  have := congrArg List.length (h n hn)
  unfold lvOf at this
  rwa [List.length_map, List.length_map] at this
theorem fullN_congr {l l' : Nat → List Mr} (h : LvE (lvOf l) (lvOf l')) : fullN l = fullN l' := by
  unfold fullN
  rw [len_lv h (show 0 < 4 by omega), len_lv h (show 1 < 4 by omega), len_lv h (show 2 < 4 by omega)]
theorem deepN_congr {l l' : Nat → List Mr} (h : LvE (lvOf l) (lvOf l')) (n : Nat) : ∀ j, n + 1 + j ≤ 4 → deepN l n j = deepN l' n j
  | 0, _ => rfl
  | j + 1, hj => by
    show (deepN l n j || _) = (deepN l' n j || _)
    rw [deepN_congr h n j (by omega), len_lv h (show n + 1 + j < 4 by omega)]
theorem pressN_congr {l l' : Nat → List Mr} (h : LvE (lvOf l) (lvOf l')) : pressN l = pressN l' := by
  unfold pressN pressAt
  rw [len_lv h (show 0 < 4 by omega), len_lv h (show 1 < 4 by omega), len_lv h (show 2 < 4 by omega), deepN_congr h 0 _ (by omega), deepN_congr h 1 _ (by omega), deepN_congr h 2 _ (by omega)]
theorem fullN_lt {l : Nat → List Mr} {n : Nat} (h : fullN l = some n) : n < 3 := by
  unfold fullN at h
  repeat' split at h
  all_goals first | (injection h with h; omega) | cases h
theorem pressN_lt {l : Nat → List Mr} {n : Nat} (h : pressN l = some n) : n < 3 := by
  unfold pressN pressAt at h
  repeat' split at h
  all_goals first | (injection h with h; omega) | cases h
/-- the plan that is told -/
def optP (l : Nat → List Mr) : Option Nat → Pn
  | some n => planP l n
  | none => Pn.zero
theorem opt_is {W : World} {base : Nat} {l : Nat → List Mr} {o : Option Nat} {cs : Array Value} {b a : Bool} {p : Pn} (h : OptPlan W base l o cs b) (hp : optP l o = p) (ha : o.isSome = a) : a = b ∧ PlanIs W base cs p := by
  subst hp ha
  cases o with
  | none => exact ⟨h.1.symm, h.2⟩
  | some n => exact ⟨h.1.symm, h.2⟩
theorem opt_same {l l' : Nat → List Mr} (h : LvE (lvOf l) (lvOf l')) {o o' : Option Nat} (e : o = o') (ho : ∀ n, o = some n → n < 3) : optP l o = optP l' o' ∧ o.isSome = o'.isSome := by
  subst e
  refine ⟨?_, rfl⟩
  cases o with
  | none => rfl
  | some n => exact planP_congr h (by have := ho n rfl; omega)
attribute [local go_sem] Oper.semAt_some
set_option maxHeartbeats 6400000 in
theorem pickPlans_walk (v : Value) (l : List Ed) (w : World) (h : IsEd w v l) (ht : TabOk w) :
    Calls Tryd.prog 4 #[v] w fun e w' => e = .returned (.bool true) ∧ Below w.heap.size w w' := by
  have Hp := Lib.hid (play17_any v l w h)
  have Ht := Lib.hid ht
  clear h ht
  go_enter Tryd.func4, Tryd.ntmps4
  go_wp2_with fail
  refine Hp.out.mono ?_
  rintro e w1 q
  have q := q.out
  unfold PkOut at q
  cases hsm : smallB l with
  | false =>
    rw [hsm, if_neg (by decide)] at q
    obtain ⟨a0, n0, c0, a1, n1, c1, a2, n2, c2, a3, n3, c3, p, rfl, hb⟩ := q
    have Hb := Lib.hid (hb.alloc hb.size (.cells #[.slice a0 n0 c0, .slice a1 n1 c1, .slice a2 n2 c2, .slice a3 n3 c3] 26))
    have Ht2 := Lib.hid (Ht.out.below Hb.out)
    clear hb hsm Hp
    go_wp2_with fail
    refine (awake17_any _ Ht2.out).mono ?_
    rintro e w2 ⟨rfl, hb2⟩
    have Hb2 := Lib.hid (Hb.out.trans (hb2.mono Hb.out.size))
    clear hb2
    go_wp2_with fail
    go_ret
    exact ⟨rfl, Hb2.out⟩
  | true =>
    rw [hsm, if_pos rfl] at q
    obtain ⟨U, X, xb, rfl, hxb, hU, hX, heU, heX, hsx, hb⟩ := q
    have HPk := Lib.hid (playP_ok hsm l.length (Nat.le_refl _))
    have h40 := (smallB_ed hsm).2
    have hT := lvS_tabs HPk.out.1 heU
    have hLX := lvS_l HPk.out.1 heX
    have hEE : LvE (lvOf X.l) (lvOf U.l) := fun n hn => (heX n hn).trans (heU n hn).symm
    obtain ⟨p, hpE⟩ : ∃ p, optP U.l (fullN U.l) = p := ⟨_, rfl⟩
    obtain ⟨a, haE⟩ : ∃ a, (fullN U.l).isSome = a := ⟨_, rfl⟩
    obtain ⟨r, hrE⟩ : ∃ p, optP U.l (pressN U.l) = p := ⟨_, rfl⟩
    obtain ⟨c, hcE⟩ : ∃ a, (pressN U.l).isSome = a := ⟨_, rfl⟩
    have hfx := opt_same hEE (fullN_congr hEE) (fun n e => fullN_lt e)
    have hgx := opt_same hEE (pressN_congr hEE) (fun n e => pressN_lt e)
    have Hpu : Hid (optP U.l (fullN U.l) = p ∧ (fullN U.l).isSome = a) := Lib.hid ⟨hpE, haE⟩
    have Hru : Hid (optP U.l (pressN U.l) = r ∧ (pressN U.l).isSome = c) := Lib.hid ⟨hrE, hcE⟩
    have Hpx : Hid (optP X.l (fullN X.l) = p ∧ (fullN X.l).isSome = a) := Lib.hid ⟨hfx.1.trans hpE, hfx.2.trans haE⟩
    have Hrx : Hid (optP X.l (pressN X.l) = r ∧ (pressN X.l).isSome = c) := Lib.hid ⟨hgx.1.trans hrE, hgx.2.trans hcE⟩
    obtain ⟨va0, vn0, vc0, va1, vn1, vc1, va2, vn2, vc2, va3, vn3, vc3, hc⟩ := isVn_agg' hU
    have Hc := Lib.hid hc
    have HLX : Hid ((∀ n, n < 4 → (X.l n).length ≤ 100000) ∧ (∀ n, n < 4 → ∀ r ∈ X.l n, gdM r.1)) := Lib.hid ⟨fun n hn => by have := (hLX n hn).1; omega, fun n hn r hr => small_gd ((hLX n hn).2 r hr)⟩
    rw [hc]
    have HB := Lib.hid (hb.alloc hb.size (.cells #[.slice va0 vn0 vc0, .slice va1 vn1 vc1, .slice va2 vn2 vc2, .slice va3 vn3 vc3] 26))
    have HA := Lib.hid ((Below.refl w1.heap.size w1).alloc (Nat.le_refl _) (.cells #[.slice va0 vn0 vc0, .slice va1 vn1 vc1, .slice va2 vn2 vc2, .slice va3 vn3 vc3] 26))
    have HV := Lib.hid (blk_of_alloc w1 (.cells #[.slice va0 vn0 vc0, .slice va1 vn1 vc1, .slice va2 vn2 vc2, .slice va3 vn3 vc3] 26))
    have HU := Lib.hid (hU.below HA.out)
    have HX := Lib.hid (hX.below HA.out)
    have Hxb := Lib.hid (blk_bels HA.out hxb)
    have HT : Hid ((tabs U.l 4).length ≤ 100000 ∧ ∀ p ∈ tabs U.l 4, p.2.1.refs.length ≤ 1000000) := Lib.hid ⟨by have := hT.1; omega, fun p hp => by have := (hT.2 p hp).1; omega⟩
    obtain ⟨vb, hvb⟩ : ∃ vb, vb = w1.heap.size := ⟨_, rfl⟩
    have Hvb := Lib.hid hvb
    rw [← hvb] at HV
    clear hsm hxb hU hX heU heX hsx hb h40 hT hc hvb Hp hLX hEE hpE haE hrE hcE hfx hgx
    go_upto_region 4 with fail
    rw [← Hvb.out]
    generalize w1.alloc (.cells #[.slice va0 vn0 vc0, .slice va1 vn1 vc1, .slice va2 vn2 vc2, .slice va3 vn3 vc3] 26) = W3 at *
    clear Hvb HA
    have Ht3 := Lib.hid (Ht.out.below HB.out)
    have H3b := Lib.hid (Below.refl W3.heap.size W3)
    have HUn := Lib.hid (fun (A : World) (hA : Below W3.heap.size W3 A) => (show Calls Tryd.prog 11 #[.agg #[.slice va0 vn0 vc0, .slice va1 vn1 vc1, .slice va2 vn2 vc2, .slice va3 vn3 vc3]] A _ from Hc.out ▸ next_any U A (HU.out.below hA) HT.out.1 HT.out.2 (Ht3.out.below hA)))
    have HUp := Lib.hid (fun (A : World) (hA : Below W3.heap.size W3 A) => (show Calls Tryd.prog 13 #[.agg #[.slice va0 vn0 vc0, .slice va1 vn1 vc1, .slice va2 vn2 vc2, .slice va3 vn3 vc3]] A _ from Hc.out ▸ press_any U A (HU.out.below hA) HT.out.1 HT.out.2))
    have HXn := Lib.hid (fun (A : World) (hA : Below W3.heap.size W3 A) => rnext_any X xb A (blk_bels hA Hxb.out) (HX.out.below hA) HLX.out.1 HLX.out.2)
    have HXp := Lib.hid (fun (A : World) (hA : Below W3.heap.size W3 A) => rpress_any X xb A (blk_bels hA Hxb.out) (HX.out.below hA) HLX.out.1 HLX.out.2)
    clear Hc HU HX Hxb HT HLX Ht HPk
    have c0 := (cell_of_blk (blk_bels H3b.out HV.out) 0).trans (show _ = some (.slice va0 vn0 vc0) from rfl)
    have c1 := (cell_of_blk (blk_bels H3b.out HV.out) 1).trans (show _ = some (.slice va1 vn1 vc1) from rfl)
    have c2 := (cell_of_blk (blk_bels H3b.out HV.out) 2).trans (show _ = some (.slice va2 vn2 vc2) from rfl)
    have c3 := (cell_of_blk (blk_bels H3b.out HV.out) 3).trans (show _ = some (.slice va3 vn3 vc3) from rfl)
    have HN4 := Lib.hid (HUn.out _ H3b.out)
    go_wp2_with fail
    refine HN4.out.mono ?_
    rintro e w4 q
    obtain ⟨cs4, b4, rfl, ho4, hb4⟩ := q.out
    obtain ⟨rfl, hp4⟩ := opt_is ho4 Hpu.out.1 Hpu.out.2
    have Hq4 := Lib.hid hp4
    obtain ⟨u4, un4, uc4, l4, ln4, lc4, e4, -, -⟩ := hp4
    subst e4
    have HC4 := Lib.hid ((H3b.out.trans (hb4.mono H3b.out.size)).alloc (Nat.le_trans H3b.out.size hb4.size) (.cells #[.int .i64 p.frm, .int .i64 p.dest, .slice u4 un4 uc4, .slice l4 ln4 lc4, .string p.upto] 34))
    have HA4 := Lib.hid ((Below.refl w4.heap.size w4).alloc (Nat.le_refl _) (.cells #[.int .i64 p.frm, .int .i64 p.dest, .slice u4 un4 uc4, .slice l4 ln4 lc4, .string p.upto] 34))
    have HO4 := Lib.hid (blk_of_alloc w4 (.cells #[.int .i64 p.frm, .int .i64 p.dest, .slice u4 un4 uc4, .slice l4 ln4 lc4, .string p.upto] 34))
    have HQ4 := Lib.hid (Hq4.out.below HA4.out)
    obtain ⟨o4, ho4'⟩ : ∃ o, o = w4.heap.size := ⟨_, rfl⟩
    have Hoe4 := Lib.hid ho4'
    rw [← ho4'] at HO4
    clear q ho4 hb4 ho4' HN4 Hq4 HA4
    clear c0 c1 c2 c3
    go_upto_region 5 with fail
    rw [← Hoe4.out]
    generalize w4.alloc (.cells #[.int .i64 p.frm, .int .i64 p.dest, .slice u4 un4 uc4, .slice l4 ln4 lc4, .string p.upto] 34) = W4 at *
    clear Hoe4
    have HN5 := Lib.hid (HXn.out _ HC4.out)
    go_wp2_with fail
    refine HN5.out.mono ?_
    rintro e w5 q
    obtain ⟨cs5, b5, rfl, ho5, hb5⟩ := q.out
    obtain ⟨rfl, hp5⟩ := opt_is ho5 Hpx.out.1 Hpx.out.2
    have Hq5 := Lib.hid hp5
    obtain ⟨u5, un5, uc5, l5, ln5, lc5, e5, -, -⟩ := hp5
    subst e5
    have HC5 := Lib.hid ((HC4.out.trans (hb5.mono HC4.out.size)).alloc (Nat.le_trans HC4.out.size hb5.size) (.cells #[.int .i64 p.frm, .int .i64 p.dest, .slice u5 un5 uc5, .slice l5 ln5 lc5, .string p.upto] 38))
    have HD5 := Lib.hid (hb5.alloc hb5.size (.cells #[.int .i64 p.frm, .int .i64 p.dest, .slice u5 un5 uc5, .slice l5 ln5 lc5, .string p.upto] 38))
    have HA5 := Lib.hid ((Below.refl w5.heap.size w5).alloc (Nat.le_refl _) (.cells #[.int .i64 p.frm, .int .i64 p.dest, .slice u5 un5 uc5, .slice l5 ln5 lc5, .string p.upto] 38))
    have HO5 := Lib.hid (blk_of_alloc w5 (.cells #[.int .i64 p.frm, .int .i64 p.dest, .slice u5 un5 uc5, .slice l5 ln5 lc5, .string p.upto] 38))
    have HQ5 := Lib.hid (Hq5.out.below HA5.out)
    obtain ⟨o5, ho5'⟩ : ∃ o, o = w5.heap.size := ⟨_, rfl⟩
    have Hoe5 := Lib.hid ho5'
    rw [← ho5'] at HO5
    clear q ho5 hb5 ho5' HN5 Hq5 HA5
    go_upto_region 6 with fail
    rw [← Hoe5.out]
    generalize w5.alloc (.cells #[.int .i64 p.frm, .int .i64 p.dest, .slice u5 un5 uc5, .slice l5 ln5 lc5, .string p.upto] 38) = W5 at *
    clear Hoe5
    have c0 := (cell_of_blk (blk_bels HC5.out HV.out) 0).trans (show _ = some (.slice va0 vn0 vc0) from rfl)
    have c1 := (cell_of_blk (blk_bels HC5.out HV.out) 1).trans (show _ = some (.slice va1 vn1 vc1) from rfl)
    have c2 := (cell_of_blk (blk_bels HC5.out HV.out) 2).trans (show _ = some (.slice va2 vn2 vc2) from rfl)
    have c3 := (cell_of_blk (blk_bels HC5.out HV.out) 3).trans (show _ = some (.slice va3 vn3 vc3) from rfl)
    have HN6 := Lib.hid (HUp.out _ HC5.out)
    go_wp2_with fail
    refine HN6.out.mono ?_
    rintro e w6 q
    obtain ⟨cs6, b6, rfl, ho6, hb6⟩ := q.out
    obtain ⟨rfl, hp6⟩ := opt_is ho6 Hru.out.1 Hru.out.2
    have Hq6 := Lib.hid hp6
    obtain ⟨u6, un6, uc6, l6, ln6, lc6, e6, -, -⟩ := hp6
    subst e6
    have HC6 := Lib.hid ((HC5.out.trans (hb6.mono HC5.out.size)).alloc (Nat.le_trans HC5.out.size hb6.size) (.cells #[.int .i64 r.frm, .int .i64 r.dest, .slice u6 un6 uc6, .slice l6 ln6 lc6, .string r.upto] 34))
    have HD6 := Lib.hid (hb6.alloc hb6.size (.cells #[.int .i64 r.frm, .int .i64 r.dest, .slice u6 un6 uc6, .slice l6 ln6 lc6, .string r.upto] 34))
    have HA6 := Lib.hid ((Below.refl w6.heap.size w6).alloc (Nat.le_refl _) (.cells #[.int .i64 r.frm, .int .i64 r.dest, .slice u6 un6 uc6, .slice l6 ln6 lc6, .string r.upto] 34))
    have HO6 := Lib.hid (blk_of_alloc w6 (.cells #[.int .i64 r.frm, .int .i64 r.dest, .slice u6 un6 uc6, .slice l6 ln6 lc6, .string r.upto] 34))
    have HQ6 := Lib.hid (Hq6.out.below HA6.out)
    obtain ⟨o6, ho6'⟩ : ∃ o, o = w6.heap.size := ⟨_, rfl⟩
    have Hoe6 := Lib.hid ho6'
    rw [← ho6'] at HO6
    clear q ho6 hb6 ho6' HN6 Hq6 HA6
    clear c0 c1 c2 c3
    go_upto_region 7 with fail
    rw [← Hoe6.out]
    generalize w6.alloc (.cells #[.int .i64 r.frm, .int .i64 r.dest, .slice u6 un6 uc6, .slice l6 ln6 lc6, .string r.upto] 34) = W6 at *
    clear Hoe6
    have HN7 := Lib.hid (HXp.out _ HC6.out)
    go_wp2_with fail
    refine HN7.out.mono ?_
    rintro e w7 q
    obtain ⟨cs7, b7, rfl, ho7, hb7⟩ := q.out
    obtain ⟨rfl, hp7⟩ := opt_is ho7 Hrx.out.1 Hrx.out.2
    have Hq7 := Lib.hid hp7
    obtain ⟨u7, un7, uc7, l7, ln7, lc7, e7, -, -⟩ := hp7
    subst e7
    have HC7 := Lib.hid ((HC6.out.trans (hb7.mono HC6.out.size)).alloc (Nat.le_trans HC6.out.size hb7.size) (.cells #[.int .i64 r.frm, .int .i64 r.dest, .slice u7 un7 uc7, .slice l7 ln7 lc7, .string r.upto] 38))
    have HD7 := Lib.hid (hb7.alloc hb7.size (.cells #[.int .i64 r.frm, .int .i64 r.dest, .slice u7 un7 uc7, .slice l7 ln7 lc7, .string r.upto] 38))
    have HA7 := Lib.hid ((Below.refl w7.heap.size w7).alloc (Nat.le_refl _) (.cells #[.int .i64 r.frm, .int .i64 r.dest, .slice u7 un7 uc7, .slice l7 ln7 lc7, .string r.upto] 38))
    have HO7 := Lib.hid (blk_of_alloc w7 (.cells #[.int .i64 r.frm, .int .i64 r.dest, .slice u7 un7 uc7, .slice l7 ln7 lc7, .string r.upto] 38))
    have HQ7 := Lib.hid (Hq7.out.below HA7.out)
    obtain ⟨o7, ho7'⟩ : ∃ o, o = w7.heap.size := ⟨_, rfl⟩
    have Hoe7 := Lib.hid ho7'
    rw [← ho7'] at HO7
    clear q ho7 hb7 ho7' HN7 Hq7 HA7
    go_upto_region 8 with fail
    rw [← Hoe7.out]
    generalize w7.alloc (.cells #[.int .i64 r.frm, .int .i64 r.dest, .slice u7 un7 uc7, .slice l7 ln7 lc7, .string r.upto] 38) = W7 at *
    clear Hoe7
    have HD57 := Lib.hid (HD6.out.trans (HD7.out.mono HD6.out.size))
    have HD47 := Lib.hid (HD5.out.trans (HD57.out.mono HD5.out.size))
    have HO4' := Lib.hid (blk_bels HD47.out HO4.out)
    have HO5' := Lib.hid (blk_bels HD57.out HO5.out)
    have HO6' := Lib.hid (blk_bels HD7.out HO6.out)
    have HQ4' := Lib.hid (HQ4.out.below HD47.out)
    have HQ5' := Lib.hid (HQ5.out.below HD57.out)
    have HQ6' := Lib.hid (HQ6.out.below HD7.out)
    have HBx := Lib.hid (HB.out.trans (HC7.out.mono HB.out.size))
    have Ht7 := Lib.hid (Ht3.out.below HC7.out)
    clear HD5 HD6 HD7 HD57 HD47 HO4 HO5 HO6 HQ4 HQ5 HQ6 HC4 HC5 HC6 HUn HUp HXn HXp HB Hpu Hru Hpx Hrx HV Ht3 H3b HC7
    have c0 := (cell_of_blk HO4'.out 0).trans (show _ = some (.int .i64 p.frm) from rfl)
    have c1 := (cell_of_blk HO4'.out 1).trans (show _ = some (.int .i64 p.dest) from rfl)
    have c2 := (cell_of_blk HO4'.out 2).trans (show _ = some (.slice u4 un4 uc4) from rfl)
    have c3 := (cell_of_blk HO4'.out 3).trans (show _ = some (.slice l4 ln4 lc4) from rfl)
    have c4 := (cell_of_blk HO4'.out 4).trans (show _ = some (.string p.upto) from rfl)
    have d0 := (cell_of_blk HO5'.out 0).trans (show _ = some (.int .i64 p.frm) from rfl)
    have d1 := (cell_of_blk HO5'.out 1).trans (show _ = some (.int .i64 p.dest) from rfl)
    have d2 := (cell_of_blk HO5'.out 2).trans (show _ = some (.slice u5 un5 uc5) from rfl)
    have d3 := (cell_of_blk HO5'.out 3).trans (show _ = some (.slice l5 ln5 lc5) from rfl)
    have d4 := (cell_of_blk HO5'.out 4).trans (show _ = some (.string p.upto) from rfl)
    go_wp2_with fail
    refine (same17_yes _ _ _ _ p a _ HQ4'.out HQ5'.out).mono ?_
    rintro e w8 ⟨rfl, hb8⟩
    have HO6'' := Lib.hid (blk_bels hb8 HO6'.out)
    have HO7'' := Lib.hid (blk_bels hb8 HO7.out)
    have HQ6'' := Lib.hid (HQ6'.out.below hb8)
    have HQ7'' := Lib.hid (HQ7.out.below hb8)
    have HB8 := Lib.hid (HBx.out.trans (hb8.mono HBx.out.size))
    have Ht8 := Lib.hid (Ht7.out.below hb8)
    clear hb8 c0 c1 c2 c3 c4 d0 d1 d2 d3 d4
    have c0 := (cell_of_blk HO6''.out 0).trans (show _ = some (.int .i64 r.frm) from rfl)
    have c1 := (cell_of_blk HO6''.out 1).trans (show _ = some (.int .i64 r.dest) from rfl)
    have c2 := (cell_of_blk HO6''.out 2).trans (show _ = some (.slice u6 un6 uc6) from rfl)
    have c3 := (cell_of_blk HO6''.out 3).trans (show _ = some (.slice l6 ln6 lc6) from rfl)
    have c4 := (cell_of_blk HO6''.out 4).trans (show _ = some (.string r.upto) from rfl)
    have d0 := (cell_of_blk HO7''.out 0).trans (show _ = some (.int .i64 r.frm) from rfl)
    have d1 := (cell_of_blk HO7''.out 1).trans (show _ = some (.int .i64 r.dest) from rfl)
    have d2 := (cell_of_blk HO7''.out 2).trans (show _ = some (.slice u7 un7 uc7) from rfl)
    have d3 := (cell_of_blk HO7''.out 3).trans (show _ = some (.slice l7 ln7 lc7) from rfl)
    have d4 := (cell_of_blk HO7''.out 4).trans (show _ = some (.string r.upto) from rfl)
    go_wp2_with fail
    refine (same17_yes _ _ _ _ r c _ HQ6''.out HQ7''.out).mono ?_
    rintro e w9 ⟨rfl, hb9⟩
    have HB9 := Lib.hid (HB8.out.trans (hb9.mono HB8.out.size))
    have Ht9 := Lib.hid (Ht8.out.below hb9)
    clear hb9 c0 c1 c2 c3 c4 d0 d1 d2 d3 d4
    go_wp2_with fail
    refine (awake17_any _ Ht9.out).mono ?_
    rintro e wz ⟨rfl, hbz⟩
    have Hbz := Lib.hid (HB9.out.trans (hbz.mono HB9.out.size))
    clear hbz
    go_wp2_with fail
    go_ret
    exact ⟨rfl, Hbz.out⟩
end Go.Proofs.YtcmndnglmpkpdaaDoor.Tithe
