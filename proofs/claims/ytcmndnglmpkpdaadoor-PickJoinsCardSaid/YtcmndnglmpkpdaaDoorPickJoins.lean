/- THE LAW PickJoins: walked. -/
import Derived.Test.YtcmndnglmpkpdaaDoorPickAwake
import Derived.Test.YtcmndnglmpkpdaaDoorPickSame
import Derived.Test.YtcmndnglmpkpdaaDoorPickRJoin
import Derived.Maps.Own
import Derived.Maps.Views
import Derived.WalkArith
import Derived.OpenShut
namespace Go.Proofs.YtcmndnglmpkpdaaDoor.Tithe
open Go.RowKit Go.Sort Go.Shelf Go.Maps
set_option linter.unusedVariables false
set_option linter.unusedSimpArgs false
set_option maxRecDepth 100000
/-! ### the map of sizes -/
def SzD (zs : List Int) : Nat → DataW Unit
  | 0 => .map []
  | j + 1 => (SzD zs j).put (.int .i64 j) (.lit (.int .i64 (zs.getD j 0)))
theorem szD_map (zs : List Int) : ∀ j, IsMap (SzD zs j)
  | 0 => ⟨[], rfl⟩
  | j + 1 => (szD_map zs j).put _ _
theorem szD_at (zs : List Int) (zd : DataW Unit) : ∀ (j z : Nat), z < j → (SzD zs j).atKey (.int .i64 z) zd = .lit (.int .i64 (zs.getD z 0))
  | 0, z, h => absurd h (Nat.not_lt_zero _)
  | j + 1, z, h => by
    show ((SzD zs j).put _ _).atKey _ _ = _
    by_cases e : z = j
    · subst e; exact atKey_put_same (szD_map zs z) (by simp [WideAt.IsKeyLit]) _ _
    · rw [atKey_put_other (by intro q; injection q with _ q; omega)]
      exact szD_at zs zd j z (by omega)
theorem lawI : Keyed Tryd.prog 3 := int_keyed Tryd.underlying3
theorem zeroI (w : World) : (zeroValue 3).run Tryd.prog w = .ok (.int .i64 0) w := by kernel_rfl
theorem ownsMap_bel {w w' : World} {b n : Nat} {D : DataW Unit} (h : w.ownsMap Tryd.prog 3 (plainElem Tryd.prog 3) b n D) (hb : Below w.heap.size w w') : w'.ownsMap Tryd.prog 3 (plainElem Tryd.prog 3) b n D := by
  have hlt := h.lt
  obtain ⟨es, clock, hh, F, hs, hD⟩ := h
  exact ⟨es, clock, (hb.block b hlt).trans hh, F, hs, hD⟩
theorem sz_look {w : World} {b : Nat} {zs : List Int} (h : w.ownsMap Tryd.prog 3 (plainElem Tryd.prog 3) b 64 (SzD zs 64)) (z : Int) (h0 : 0 ≤ z) (h1 : z < 64) : (Instr.lookup 61 (.map (some b)) (.int .i64 z) false).run Tryd.prog w = .ok (.int .i64 (zs.getD z.toNat 0)) w := by
  obtain ⟨c, hrun, hat, -⟩ := h.lookup_int lawI Tryd.underlying61 Tryd.underlying3 (zeroI _) (keyOf_int_mk Tryd.underlying3 (WalkArith.wf_i64 (n := z) (by omega)))
  have h2 := szD_at zs (.lit (.int .i64 0)) 64 z.toNat (by omega)
  rw [show ((z.toNat : Nat) : Int) = z by omega, hat] at h2
  have h3 : Lit.int .i64 c = Lit.int .i64 (zs.getD z.toNat 0) := DataW.lit.inj h2
  rw [hrun, (Lit.int.inj h3).2]
/-! ### the same neighbours -/
def nz (p : Nat × Mr × Mr) : Nat × Mt × Mt := (p.1, p.2.1.1, p.2.2.1)
theorem nbL_nz {n : Nat} {r r' : List Mr} (h : r.map (·.1) = r'.map (·.1)) : (nbL n r).map nz = (nbL n r').map nz := by
  unfold nbL
  have hl : r.length = r'.length := by have := congrArg List.length h; rwa [List.length_map, List.length_map] at this
  split
  · rfl
  · rw [List.map_map, List.map_map, hl]
    refine List.map_congr_left fun i _ => ?_
    show (n, (r.getD i Mr.nil).1, (r.getD (i + 1) Mr.nil).1) = (n, (r'.getD i Mr.nil).1, (r'.getD (i + 1) Mr.nil).1)
    rw [getD_map, getD_map, getD_map, getD_map, h]
theorem nbs_nz {l l' : Nat → List Mr} (h : LvE (lvOf l) (lvOf l')) : ∀ n, n ≤ 4 → (nbs l n).map nz = (nbs l' n).map nz
  | 0, _ => rfl
  | n + 1, hn => by
    show (nbs l n ++ nbL n (l n)).map nz = (nbs l' n ++ nbL n (l' n)).map nz
    rw [List.map_append, List.map_append, nbs_nz h n (by omega), nbL_nz (h n (by omega))]
theorem joinT_nz (l : Nat → List Mr) (f : Int → Int) (size : Int) : (joinT l f size).map nz = ((nbs l 4).map nz).find? fun p => decide (f p.2.1.z + f p.2.2.z ≤ size) := by
  unfold joinT
  rw [List.find?_map]; rfl
theorem join_congr {l l' : Nat → List Mr} (h : LvE (lvOf l) (lvOf l')) (f : Int → Int) (size : Int) : joinP (joinT l f size) = joinP (joinT l' f size) ∧ (joinT l f size).isSome = (joinT l' f size).isSome := by
  have e : (joinT l f size).map nz = (joinT l' f size).map nz := by rw [joinT_nz, joinT_nz, nbs_nz h 4 (Nat.le_refl _)]
  have hp : ∀ o : Option (Nat × Mr × Mr), joinP o = match o.map nz with | some p => ⟨p.1, p.1, [p.2.1.z], [p.2.2.z], ⟨#[]⟩⟩ | none => Pn.zero := fun o => by cases o <;> rfl
  refine ⟨by rw [hp, hp, e], ?_⟩
  have := congrArg Option.isSome e
  rwa [Option.isSome_map, Option.isSome_map] at this
attribute [local go_sem] Oper.semAt_some
set_option maxHeartbeats 6400000 in
theorem pickJoins_walk (v : Value) (l : List Ed) (sv : Value) (zs : List Int) (size : Int) (w : World) (h : IsEd w v l) (hs : IsDz w sv zs) (hw : (Lit.int .i64 size).wf = true) (ht : TabOk w) :
    Calls Tryd.prog 7 #[v, sv, .int .i64 size] w fun e w' => e = .returned (.bool true) ∧ Below w.heap.size w w' := by
  have hsz : -9223372036854775808 ≤ size ∧ size ≤ 9223372036854775807 := bounds_i64 hw
  clear hw
  have Hp := Lib.hid (play17_any v l w h)
  have Ht := Lib.hid ht
  have Hs := Lib.hid hs
  obtain ⟨sa, sc, rfl, hsc, hsm, hsx⟩ := id hs
  obtain ⟨N, hN⟩ : ∃ N, N = zs.length := ⟨_, rfl⟩
  rw [← hN] at hsc ⊢
  have HN := Lib.hid hN
  have hmm := @run_makeMap Tryd.prog
  have HMM := Lib.hid hmm
  clear h ht hs hsx hN hmm hsm
  go_enter Tryd.func7, Tryd.ntmps7
  go_wp2_with fail
  refine Hp.out.mono ?_
  rintro e w1 q
  have q := q.out
  unfold PkOut at q
  cases hsmB : smallB l with
  | false =>
    rw [hsmB, if_neg (by decide)] at q
    obtain ⟨a0, n0, c0, a1, n1, c1, a2, n2, c2, a3, n3, c3, p, rfl, hb⟩ := q
    have Hb := Lib.hid (hb.alloc hb.size (.cells #[.slice a0 n0 c0, .slice a1 n1 c1, .slice a2 n2 c2, .slice a3 n3 c3] 26))
    have Ht2 := Lib.hid (Ht.out.below Hb.out)
    clear hb hsmB Hp
    go_wp2_with fail
    refine (awake17_any _ Ht2.out).mono ?_
    rintro e wz ⟨rfl, hbz⟩
    have Hbz := Lib.hid (Hb.out.trans (hbz.mono Hb.out.size))
    clear hbz
    go_wp2_with fail
    go_ret
    exact ⟨rfl, Hbz.out⟩
  | true =>
    rw [hsmB, if_pos rfl] at q
    obtain ⟨U, X, xb, rfl, hxb, hU, hX, heU, heX, hsx, hb⟩ := q
    have HPk := Lib.hid (playP_ok hsmB l.length (Nat.le_refl _))
    have h40 := (smallB_ed hsmB).2
    have hLU := lvS_l HPk.out.1 heU
    have hLX := lvS_l HPk.out.1 heX
    have hEE : LvE (lvOf X.l) (lvOf U.l) := fun n hn => (heX n hn).trans (heU n hn).symm
    have HEE := Lib.hid hEE
    have HvU := Lib.hid (lvE_ver HPk.out.2 heU)
    have HvX := Lib.hid (lvE_ver HPk.out.2 heX)
    have HlU : Hid (∀ n, n < 4 → (U.l n).length ≤ 100000) := Lib.hid (fun n hn => by have := (hLU n hn).1; omega)
    have HlX : Hid (∀ n, n < 4 → (X.l n).length ≤ 100000) := Lib.hid (fun n hn => by have := (hLX n hn).1; omega)
    obtain ⟨va0, vn0, vc0, va1, vn1, vc1, va2, vn2, vc2, va3, vn3, vc3, hc⟩ := isVn_agg' hU
    have Hc := Lib.hid hc
    rw [hc]
    have HB := Lib.hid (hb.alloc hb.size (.cells #[.slice va0 vn0 vc0, .slice va1 vn1 vc1, .slice va2 vn2 vc2, .slice va3 vn3 vc3] 26))
    have HA := Lib.hid ((Below.refl w1.heap.size w1).alloc (Nat.le_refl _) (.cells #[.slice va0 vn0 vc0, .slice va1 vn1 vc1, .slice va2 vn2 vc2, .slice va3 vn3 vc3] 26))
    have HV := Lib.hid (blk_of_alloc w1 (.cells #[.slice va0 vn0 vc0, .slice va1 vn1 vc1, .slice va2 vn2 vc2, .slice va3 vn3 vc3] 26))
    have HU := Lib.hid (hU.below HA.out)
    have HX := Lib.hid (hX.below HA.out)
    have Hxb := Lib.hid (blk_bels HA.out hxb)
    obtain ⟨vb, hvb⟩ : ∃ vb, vb = w1.heap.size := ⟨_, rfl⟩
    have Hvb := Lib.hid hvb
    rw [← hvb] at HV
    clear hsmB hxb hU hX heU heX hsx hb h40 hLU hLX hEE hc hvb Hp HPk
    go_upto_region 2 with fail
    rw [← Hvb.out]
    generalize w1.alloc (.cells #[.slice va0 vn0 vc0, .slice va1 vn1 vc1, .slice va2 vn2 vc2, .slice va3 vn3 vc3] 26) = W3 at *
    clear Hvb HA
    have Ht3 := Lib.hid (Ht.out.below HB.out)
    generalize (Value.tuple #[.agg #[.slice va0 vn0 vc0, .slice va1 vn1 vc1, .slice va2 vn2 vc2, .slice va3 vn3 vc3], .pointer (some ⟨xb, 0, none⟩), .bool true]) = dead1
    generalize (Value.agg #[.slice va0 vn0 vc0, .slice va1 vn1 vc1, .slice va2 vn2 vc2, .slice va3 vn3 vc3]) = dead2
    by_cases h64 : N = 64
    · subst h64
      have hmm := HMM.out
      have HA4 := Lib.hid ((Below.refl W3.heap.size W3).alloc (Nat.le_refl _) (.map #[] 0))
      have Hown0 : Hid ((W3.alloc (.map #[] 0)).ownsMap Tryd.prog 3 (plainElem (H := Unit) Tryd.prog 3) W3.heap.size 0 (SzD zs 0)) := Lib.hid (World.ownsMap_made _ _ _ _)
      obtain ⟨mb, hmb⟩ : ∃ o, o = W3.heap.size := ⟨_, rfl⟩
      have Hmb := Lib.hid hmb
      rw [← hmb] at Hown0
      clear hmb
      go_upto_region 6 with fail
      rw [← Hmb.out]
      clear hmm
      have hmb3 : W3.heap.size ≤ mb := Nat.le_of_eq Hmb.out.symm
      have Hmb3 := Lib.hid hmb3
      clear hmb3 HMM
      generalize W3.alloc (.map #[] 0) = W4 at *
      go_loopw [34] (fun jv wr => ∃ j : Nat, j ≤ 64 ∧ jv = .int .i64 j ∧ (∀ i : Nat, i < j → 0 ≤ zs.getD i 0 ∧ zs.getD i 0 ≤ 1048576) ∧ wr.ownsMap Tryd.prog 3 (plainElem (H := Unit) Tryd.prog 3) mb j (SzD zs j) ∧ Below W3.heap.size W3 wr) (fun jv _ => 64 - (intOf jv).toNat)
      case atStart => exact ⟨0, by omega, rfl, fun i hi => absurd hi (Nat.not_lt_zero _), Hown0.out, HA4.out⟩
      case round =>
        clear Hown0 HA4
        obtain ⟨wo, rfl⟩ : ∃ wo : World, wo = wr := ⟨_, rfl⟩
        obtain ⟨j, hj, rfl, hle, hown, hbj⟩ := hrel
        have Hle := Lib.hid hle
        have Hown := Lib.hid hown
        have Hbj := Lib.hid hbj
        have Hbjw := Lib.hid (HB.out.trans (hbj.mono HB.out.size))
        clear hle hown hbj
        by_cases hj64 : j < 64
        · obtain ⟨-, -, -, hx⟩ := Hs.out.at
          obtain ⟨b, off, rfl, hcz⟩ := hx (by rw [← HN.out]; omega)
          have hzj : zs[j]? = some (zs.getD j 0) := by
            rw [List.getD_eq_getElem?_getD, List.getElem?_eq_getElem (by rw [← HN.out]; exact hj64)]; rfl
          have d0 := IsDz.row1 (w := wo) (fun i x hi j y hj => (Hbjw.out.cell (block_lt_of_cell (hcz i x hi j y hj))).trans (hcz i x hi j y hj)) hzj
          obtain ⟨z, hz⟩ : ∃ z, z = zs.getD j 0 := ⟨_, rfl⟩
          rw [← hz] at d0
          have HzE := Lib.hid hz
          have hji : (j : Int) < 64 := by omega
          have Ht4 := Lib.hid (Ht.out.below Hbjw.out)
          clear hzj hcz hx hz
          by_cases hz0 : z < 0
          · have e0 : decide (z < 0) = true := decide_eq_true hz0
            go_wp2_with fail
            refine (awake17_any _ Ht4.out).mono ?_
            rintro e wz ⟨rfl, hbz⟩
            have Hbz := Lib.hid (Hbjw.out.trans (hbz.mono Hbjw.out.size))
            clear hbz
            go_wp2_with fail
            go_ret
            exact ⟨rfl, Hbz.out⟩
          · have e0 : decide (z < 0) = false := decide_eq_false hz0
            by_cases hz1 : 1048576 < z
            · have e1 : decide (z > 1048576) = true := decide_eq_true hz1
              have e1' : decide (1048576 < z) = true := decide_eq_true hz1
              go_wp2_with fail
              refine (awake17_any _ Ht4.out).mono ?_
              rintro e wz ⟨rfl, hbz⟩
              have Hbz := Lib.hid (Hbjw.out.trans (hbz.mono Hbjw.out.size))
              clear hbz
              go_wp2_with fail
              go_ret
              exact ⟨rfl, Hbz.out⟩
            · have e1 : decide (z > 1048576) = false := decide_eq_false hz1
              have e1' : decide (1048576 < z) = false := decide_eq_false hz1
              have hkey : keyOf Tryd.prog 3 (.int .i64 (j : Int)) = some (.int .i64 (j : Int)) := keyOf_int_mk Tryd.underlying3 (WalkArith.wf_i64 (n := (j : Int)) (by omega))
              have hel := plainElem_int (H := Unit) Tryd.underlying3 (WalkArith.wf_i64 (n := z) (by omega))
              have hown := Hown.out
              go_wp2_with (first | (at_mapUpdate; refine wpList_mapUpdate_own _ rfl _ _ _ 61 rfl 3 3 lawI Tryd.underlying61 _ mb j _ rfl hown (by unfold maxLen; omega) _ _ _ rfl rfl hkey _ [] hel ?_; intro w5 hown5 hgrow5) | fail)
              have Ho5 : Hid (w5.ownsMap Tryd.prog 3 (plainElem (H := Unit) Tryd.prog 3) mb (j + 1) (SzD zs (j + 1))) := Lib.hid (by
                show w5.ownsMap _ _ _ _ _ ((SzD zs j).put _ _)
                rw [← HzE.out]; exact hown5)
              have Hb5 := Lib.hid (Hbj.out.grown hgrow5 Hbj.out.size (fun r hr => by cases hr; exact Hmb3.out))
              have Hle5 : Hid (∀ i : Nat, i < j + 1 → 0 ≤ zs.getD i 0 ∧ zs.getD i 0 ≤ 1048576) := Lib.hid (fun i hi => by
                by_cases e : i = j
                · subst e; rw [← HzE.out]; omega
                · exact Hle.out i (by omega))
              clear hown5 hgrow5
              go_roundw
              case rel => exact ⟨j + 1, by omega, by go_num, Hle5.out, Ho5.out, Hb5.out⟩
              case measure => simp [intOf]; omega
        · obtain rfl : j = 64 := by omega
          obtain ⟨f, hfE⟩ : ∃ f : Int → Int, f = fun z => zs.getD z.toNat 0 := ⟨_, rfl⟩
          have hfb : ∀ z : Int, 0 ≤ z → z < 64 → 0 ≤ f z ∧ f z ≤ 1048576 := fun z h0 h1 => by rw [hfE]; exact Hle.out z.toNat (by omega)
          have hj0 := join_any U mb f size wo (HU.out.below Hbj.out) HvU.out HlU.out hsz hfb (fun W' hW z h0 h1 => by rw [hfE]; exact sz_look (ownsMap_bel Hown.out hW) z h0 h1)
          have hcg := join_congr HEE.out f size
          obtain ⟨pj, hpj⟩ : ∃ p, p = joinP (joinT U.l f size) := ⟨_, rfl⟩
          obtain ⟨bj, hbjE⟩ : ∃ b, b = (joinT U.l f size).isSome := ⟨_, rfl⟩
          rw [Hc.out, ← hpj, ← hbjE] at hj0
          have HJ0 := Lib.hid hj0
          have HRJ : Hid (∀ A : World, Below W3.heap.size W3 A → Calls Tryd.prog 21 #[.pointer (some ⟨xb, 0, none⟩), .slice sa 64 sc, .int .i64 size] A fun e w' => Hid (∃ cs, e = .returned (.tuple #[.agg cs, .bool bj]) ∧ PlanIs w' A.heap.size cs pj ∧ Below A.heap.size A w')) := Lib.hid (fun A hA => by
            have := rjoin_any X xb _ zs size A (blk_bels hA Hxb.out) (HX.out.below hA) (Hs.out.below (HB.out.trans (hA.mono HB.out.size))) HN.out.symm HvX.out HlX.out (fun z h0 h1 => Hle.out z.toNat (by omega))
            rw [show zs.length = 64 from HN.out.symm, ← hfE, hcg.1, hcg.2, ← hpj, ← hbjE] at this
            exact this)
          have HV4 := Lib.hid (blk_bels Hbj.out HV.out)
          clear hj0 hfb hcg hpj hbjE hfE
          have c0 := (cell_of_blk HV4.out 0).trans (show _ = some (.slice va0 vn0 vc0) from rfl)
          have c1 := (cell_of_blk HV4.out 1).trans (show _ = some (.slice va1 vn1 vc1) from rfl)
          have c2 := (cell_of_blk HV4.out 2).trans (show _ = some (.slice va2 vn2 vc2) from rfl)
          have c3 := (cell_of_blk HV4.out 3).trans (show _ = some (.slice va3 vn3 vc3) from rfl)
          go_wp2_with fail
          refine HJ0.out.mono ?_
          rintro e w5 q
          obtain ⟨cs5, rfl, hp5, hb5⟩ := q.out
          have Hq5 := Lib.hid hp5
          obtain ⟨u5, un5, uc5, l5, ln5, lc5, e5, -, -⟩ := hp5
          subst e5
          obtain ⟨pf, pd, pu, pl, pt⟩ := pj
          dsimp only
          have HA5 := Lib.hid ((Below.refl w5.heap.size w5).alloc (Nat.le_refl _) (.cells #[.int .i64 pf, .int .i64 pd, .slice u5 un5 uc5, .slice l5 ln5 lc5, .string pt] 34))
          have HC5 := Lib.hid (Hbj.out.trans ((hb5.trans (HA5.out.mono hb5.size)).mono Hbj.out.size))
          have HO5 := Lib.hid (blk_of_alloc w5 (.cells #[.int .i64 pf, .int .i64 pd, .slice u5 un5 uc5, .slice l5 ln5 lc5, .string pt] 34))
          have HQ5 := Lib.hid (Hq5.out.below HA5.out)
          obtain ⟨o5, ho5⟩ : ∃ o, o = w5.heap.size := ⟨_, rfl⟩
          have Hoe5 := Lib.hid ho5
          rw [← ho5] at HO5
          clear q hb5 ho5 HJ0 Hq5 HA5 c0 c1 c2 c3 HV4
          go_upto_region 13 with fail
          rw [← Hoe5.out]
          generalize w5.alloc (.cells #[.int .i64 pf, .int .i64 pd, .slice u5 un5 uc5, .slice l5 ln5 lc5, .string pt] 34) = W5 at *
          clear Hoe5
          go_wp2_with fail
          refine (HRJ.out _ HC5.out).mono ?_
          rintro e w6 q
          obtain ⟨cs6, rfl, hp6, hb6⟩ := q.out
          have Hq6 := Lib.hid hp6
          obtain ⟨u6, un6, uc6, l6, ln6, lc6, e6, -, -⟩ := hp6
          subst e6
          dsimp only
          have HA6 := Lib.hid ((Below.refl w6.heap.size w6).alloc (Nat.le_refl _) (.cells #[.int .i64 pf, .int .i64 pd, .slice u6 un6 uc6, .slice l6 ln6 lc6, .string pt] 38))
          have HD6 := Lib.hid (hb6.trans (HA6.out.mono hb6.size))
          have HO6 := Lib.hid (blk_of_alloc w6 (.cells #[.int .i64 pf, .int .i64 pd, .slice u6 un6 uc6, .slice l6 ln6 lc6, .string pt] 38))
          have HQ6 := Lib.hid (Hq6.out.below HA6.out)
          obtain ⟨o6, ho6⟩ : ∃ o, o = w6.heap.size := ⟨_, rfl⟩
          have Hoe6 := Lib.hid ho6
          rw [← ho6] at HO6
          clear q hb6 ho6 HRJ Hq6 HA6
          go_upto_region 14 with fail
          rw [← Hoe6.out]
          generalize w6.alloc (.cells #[.int .i64 pf, .int .i64 pd, .slice u6 un6 uc6, .slice l6 ln6 lc6, .string pt] 38) = W6 at *
          clear Hoe6
          have HO5' := Lib.hid (blk_bels HD6.out HO5.out)
          have HQ5' := Lib.hid (HQ5.out.below HD6.out)
          have HB6 := Lib.hid (HB.out.trans ((HC5.out.trans (HD6.out.mono HC5.out.size)).mono HB.out.size))
          have Ht6 := Lib.hid (Ht.out.below HB6.out)
          clear HD6 HO5 HQ5 HC5
          have c0 := (cell_of_blk HO5'.out 0).trans (show _ = some (.int .i64 pf) from rfl)
          have c1 := (cell_of_blk HO5'.out 1).trans (show _ = some (.int .i64 pd) from rfl)
          have c2 := (cell_of_blk HO5'.out 2).trans (show _ = some (.slice u5 un5 uc5) from rfl)
          have c3 := (cell_of_blk HO5'.out 3).trans (show _ = some (.slice l5 ln5 lc5) from rfl)
          have c4 := (cell_of_blk HO5'.out 4).trans (show _ = some (.string pt) from rfl)
          have d0 := (cell_of_blk HO6.out 0).trans (show _ = some (.int .i64 pf) from rfl)
          have d1 := (cell_of_blk HO6.out 1).trans (show _ = some (.int .i64 pd) from rfl)
          have d2 := (cell_of_blk HO6.out 2).trans (show _ = some (.slice u6 un6 uc6) from rfl)
          have d3 := (cell_of_blk HO6.out 3).trans (show _ = some (.slice l6 ln6 lc6) from rfl)
          have d4 := (cell_of_blk HO6.out 4).trans (show _ = some (.string pt) from rfl)
          go_wp2_with fail
          refine (same17_yes _ _ _ _ ⟨pf, pd, pu, pl, pt⟩ bj _ HQ5'.out HQ6.out).mono ?_
          rintro e w8 ⟨rfl, hb8⟩
          have HB8 := Lib.hid (HB6.out.trans (hb8.mono HB6.out.size))
          have Ht8 := Lib.hid (Ht6.out.below hb8)
          clear hb8 c0 c1 c2 c3 c4 d0 d1 d2 d3 d4
          go_wp2_with fail
          refine (awake17_any _ Ht8.out).mono ?_
          rintro e wz ⟨rfl, hbz⟩
          have Hbz := Lib.hid (HB8.out.trans (hbz.mono HB8.out.size))
          clear hbz
          go_wp2_with fail
          go_ret
          exact ⟨rfl, Hbz.out⟩
    · have hN64 : ¬ (N : Int) = 64 := by omega
      have eN : ((N : Int) != 64) = true := by simp; omega
      go_wp2_with fail
      refine (awake17_any _ Ht3.out).mono ?_
      rintro e wz ⟨rfl, hbz⟩
      have Hbz := Lib.hid (HB.out.trans (hbz.mono HB.out.size))
      clear hbz
      go_wp2_with fail
      go_ret
      exact ⟨rfl, Hbz.out⟩
end Go.Proofs.YtcmndnglmpkpdaaDoor.Tithe
