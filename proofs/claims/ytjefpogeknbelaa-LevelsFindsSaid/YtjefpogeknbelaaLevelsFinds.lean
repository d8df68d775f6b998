/- THE LAW LevelsFinds: walked. -/
import Derived.Test.YtjefpogeknbelaaLevFindsC
namespace Go.Proofs.Ytjefpogeknbelaa.Tithe
open Go.RowKit Go.Sort Go.Shelf
set_option linter.unusedVariables false
set_option linter.unusedSimpArgs false
set_option maxRecDepth 100000
def FdI (w3 : World) (X : Vn) (N : Int) (a : ByteArray) (n : Nat) (av dv : Value) (W : World) : Prop := ∃ xa rl xc, av = .slice xa rl xc ∧ OwnM15 W w3.heap.size (.slice xa rl xc) ((tabs X.l n).map (·.2)) ∧ dv = .bool (deepX X.l N a n) ∧ Below w3.heap.size w3 W
theorem has_both {U X : Vn} {xb : Nat} {N : Int} {L : Lv} {W : World} (hxb : W.heap[xb]? = some (.cells X.cells 61 (0, 0))) (hX : IsVn W X) (hU : IsVn W U) (heX : LvE (lvOf X.l) L) (heU : LvE (lvOf U.l) L) :
    ∃ (HN HI LV : Int) (HB : Bool), (Calls Try.prog 23 #[.pointer (some ⟨xb, 0, none⟩), .int .i64 N] W fun e w' => e = .returned (.tuple #[.int .i64 HN, .int .i64 HI]) ∧ W = w') ∧
      (Calls Try.prog 24 #[.agg U.cells, .int .i64 N] W fun e w' => e = .returned (.tuple #[.int .i64 LV, .bool HB]) ∧ Below W.heap.size W w') ∧ decide (0 ≤ HN) = HB ∧ (if HN < 0 then 0 else HN) = LV := by
  cases hh : hasP L N with
  | none => exact ⟨-1, -1, 0, false, (has15_none hxb hX ((hasP_congr heX N).trans hh)).mono fun e w' q => ⟨q.1, q.2.symm⟩, has_no hU (hasT_no heU hh), rfl, rfl⟩
  | some p =>
    obtain ⟨n, i⟩ := p
    exact ⟨n, i, n, true, (has15_some hxb hX ((hasP_congr heX N).trans hh)).mono fun e w' q => ⟨q.1, q.2.symm⟩, has_yes hU (hasT_of heU hh), decide_eq_true (by omega), if_neg (by omega)⟩
attribute [local go_sem] Oper.semAt_some
set_option maxHeartbeats 12800000 in
theorem levelsFinds_walk (v : Value) (l : List Ed) (a b : ByteArray) (N : Int) (w : World) (h : IsEd w v l) :
    Calls Try.prog 6 #[.agg #[v, .string a, .string b, .int .i64 N]] w fun e w' => e = .returned (.bool true) ∧ Below w.heap.size w w' := by
  have HA := Lib.hid ((Below.refl w.heap.size w).alloc (Nat.le_refl _) (.cells #[v, .string a, .string b, .int .i64 N] 67))
  have HP := Lib.hid (blk_of_alloc w (.cells #[v, .string a, .string b, .int .i64 N] 67))
  have Hs := Lib.hid (small_any v l _ (isEd_bel h HA.out))
  have Hi := Lib.hid (isEd_bel h HA.out)
  obtain ⟨va, vc, rfl, -, -, -⟩ := id h.1
  obtain ⟨vl, hvl⟩ : ∃ vl, vl = l.length := ⟨_, rfl⟩
  rw [← hvl] at HA HP Hs Hi ⊢
  obtain ⟨pb, hpb⟩ : ∃ pb, pb = w.heap.size := ⟨_, rfl⟩
  have Hpb := Lib.hid hpb
  rw [← hpb] at HP
  clear h hpb
  cases hsm : smallB l with
  | false =>
    rw [hsm] at Hs
    clear hsm hvl
    go_enter Try.func6, Try.ntmps6
    go_wp2_with fail
    refine Hs.out.mono ?_
    rintro e w1 ⟨rfl, hb⟩
    have Hb := Lib.hid (HA.out.trans (hb.mono HA.out.size))
    clear hb
    go_wp2_with fail
    refine (awake15_any _).mono ?_
    rintro e wz ⟨rfl, hbz⟩
    have Hbz := Lib.hid (Hb.out.trans (hbz.mono Hb.out.size))
    clear hbz
    go_wp2
    go_ret
    exact ⟨rfl, Hbz.out⟩
  | true =>
    rw [hsm] at Hs
    have Hsm := Lib.hid hsm
    clear hsm hvl
    go_enter Try.func6, Try.ntmps6
    go_wp2_with fail
    rw [← Hpb.out]
    refine Hs.out.mono ?_
    rintro e w1 ⟨rfl, hb⟩
    have Hb1 := Lib.hid (HA.out.trans (hb.mono HA.out.size))
    have HP1 := Lib.hid (blk_bels hb HP.out)
    have Hi1 := Lib.hid (isEd_bel Hi.out hb)
    have f0 := (cell_of_blk HP1.out 0).trans (show _ = some (.slice va vl vc) from rfl)
    have f1 := (cell_of_blk HP1.out 1).trans (show _ = some (.string a) from rfl)
    have f2 := (cell_of_blk HP1.out 2).trans (show _ = some (.string b) from rfl)
    have f3 := (cell_of_blk HP1.out 3).trans (show _ = some (.int .i64 N) from rfl)
    clear hb Hs HA HP Hi
    by_cases ha : 200 < a.size
    · go_wp2_with fail
      refine (awake15_any _).mono ?_
      rintro e wz ⟨rfl, hbz⟩
      have Hbz := Lib.hid (Hb1.out.trans (hbz.mono Hb1.out.size))
      clear hbz
      go_wp2
      go_ret
      exact ⟨rfl, Hbz.out⟩
    · by_cases hbs : 200 < b.size
      · go_wp2_with fail
        refine (awake15_any _).mono ?_
        rintro e wz ⟨rfl, hbz⟩
        have Hbz := Lib.hid (Hb1.out.trans (hbz.mono Hb1.out.size))
        clear hbz
        go_wp2
        go_ret
        exact ⟨rfl, Hbz.out⟩
      · have Ha := Lib.hid (show a.size ≤ maxLen by unfold maxLen; omega)
        have Hbm := Lib.hid (show b.size ≤ maxLen by unfold maxLen; omega)
        go_wp2_with fail
        refine (play_any _ l w1 Hi1.out Hsm.out).mono ?_
        rintro e w3 qq
        obtain ⟨U, X, xb, rfl, hxb, hU, hX, heU, heX, hsx, hb3⟩ := qq.out
        have Hb3 := Lib.hid (Hb1.out.trans (hb3.mono Hb1.out.size))
        have HP3 := Lib.hid (blk_bels hb3 HP1.out)
        obtain ⟨va0, vn0, vc0, va1, vn1, vc1, va2, vn2, vc2, va3, vn3, vc3, hc⟩ := isVn_agg hU
        have hXc : X.cells = #[X.v 0, X.v 1, X.v 2, X.v 3] := rfl
        have hPk := playP_ok Hsm.out l.length (Nat.le_refl _)
        have h40 := (smallB_ed Hsm.out).2
        have hT := lvS_tabs hPk.1 heU
        have hvU := lvE_ver hPk.2 heU
        have hvX := lvE_ver hPk.2 heX
        have hlX := lvS_l hPk.1 heX
        have hTX := lvS_tabs hPk.1 heX
        have HT : Hid ((tabs U.l 4).length ≤ 100000 ∧ ∀ p ∈ tabs U.l 4, p.2.1.refs.length ≤ 1000000) := Lib.hid ⟨by have := hT.1; omega, fun p hp => by have := (hT.2 p hp).1; omega⟩
        have HG : Hid ((∀ p ∈ tabs U.l 4, lvGood p.2.1) ∧ ∀ n, n < 4 → (X.l n).length ≤ 400 ∧ ∀ r ∈ X.l n, lvGood r.1) := Lib.hid ⟨fun p hp => mOk_good (verOk_m hvU (tabs_mem hp).1 (tabs_mem hp).2) (hT.2 p hp).1, fun n hn => ⟨by have := (hlX n hn).1; omega, fun r hr => mOk_good (verOk_m hvX hn hr) ((hlX n hn).2 r hr).1⟩⟩
        have HRo : Hid (∀ (lv : Int) (s g : ByteArray) (A : World), A.heap[xb]? = some (.cells X.cells 61 (0, 0)) → IsVn A X → s.size ≤ maxLen → g.size ≤ maxLen → Calls Try.prog 22 #[.pointer (some ⟨xb, 0, none⟩), .int .i64 lv, .string s, .string g] A fun e w' => Hid (RoOut X lv s g A e w')) :=
          Lib.hid (fun lv s g A h1 h2 h3 h4 => rover_any X xb lv s g A h1 h2 h3 h4 (fun n hn => by have := (hlX n hn).1; omega) (fun n hn r hr => small_gd ((hlX n hn).2 r hr)))
        have Hpt := Lib.hid (pt_eq heU heX)
        have HeU := Lib.hid heU
        have HeX := Lib.hid heX
        have HAl := Lib.hid ((Below.refl w3.heap.size w3).alloc (Nat.le_refl _) (.cells U.cells 48))
        have HU3 := Lib.hid (hU.below HAl.out)
        have HX3 := Lib.hid (hX.below HAl.out)
        have Hxb3 := Lib.hid (blk_bels HAl.out hxb)
        have HV := Lib.hid (blk_of_alloc w3 (.cells U.cells 48))
        have HP3' := Lib.hid (blk_bels HAl.out HP3.out)
        have Hb3' := Lib.hid (Hb3.out.trans (HAl.out.mono Hb3.out.size))
        have Hc := Lib.hid hc
        obtain ⟨vb, hvb⟩ : ∃ vb, vb = w3.heap.size := ⟨_, rfl⟩
        have Hvb := Lib.hid hvb
        rw [← hvb] at HV
        have hTl : (tabs X.l 4).length ≤ 1600 := by have := hTX.1; omega
        rw [hc] at HAl HU3 HX3 Hxb3 HV HP3' Hb3' ⊢
        clear hxb hU hX heU heX hsx hb3 hc hPk h40 hT hvU hvX hlX hTX qq hvb Hi1 Hb1 f0 f1 f2 f3 HP1 hXc HP3 Hb3 HAl
        go_upto_region 6 with fail
        rw [← Hvb.out]
        generalize w3.alloc (.cells #[.slice va0 vn0 vc0, .slice va1 vn1 vc1, .slice va2 vn2 vc2, .slice va3 vn3 vc3] 48) = W3 at *
        clear Hvb
        have Hb3 := Hb3'
        have HP3 := HP3'
        clear Hb3' HP3'
        have cx := fun i => cell_of_blk Hxb3.out i
        have e0 := (cx 0).trans (show _ = some (X.v 0) from rfl)
        have e1 := (cx 1).trans (show _ = some (X.v 1) from rfl)
        have e2 := (cx 2).trans (show _ = some (X.v 2) from rfl)
        have e3 := (cx 3).trans (show _ = some (X.v 3) from rfl)
        obtain ⟨i0, hi0, hz0, hz1, hz2⟩ := info_partsL mt15Info3
        have Hi0 := Lib.hid hi0
        have Hz0 := Lib.hid hz0
        have Hz1 := Lib.hid hz1
        have Hz2 := Lib.hid hz2
        clear cx hi0 hz0 hz1 hz2
        go_wp2_with fail
        clear e0 e1 e2 e3
        go_loopw [6, 7, 44] (fun av dv nv wr => ∃ n : Nat, n ≤ 4 ∧ nv = .int .i64 n ∧ FdI W3 X N a n av dv wr) (fun _ _ nv _ => 4 - (intOf nv).toNat)
        case atStart => exact ⟨0, Nat.zero_le _, rfl, none, 0, 0, rfl, World.ownsRow_nil _ _ _ _, rfl, Below.refl _ _⟩
        case round =>
          obtain ⟨wo, rfl⟩ : ∃ wo : World, wo = wr := ⟨_, rfl⟩
          obtain ⟨n, hn, rfl, xa, rl, xc, rfl, hown, rfl, hb⟩ := hrel
          have hrl := own_n hown
          have Hb := Lib.hid hb
          by_cases hn4 : n < 4
          · have hni : (n : Int) < 4 := by omega
            have hix := fun W => index_vx X hn4 W
            have hsl := (HX3.out n hn4).1.below hb
            obtain ⟨la, lc, hv2, -, -, -⟩ := id hsl
            obtain ⟨ll, hll⟩ : ∃ ll, ll = (X.l n).length := ⟨_, rfl⟩
            rw [← hll] at hv2
            rw [hv2] at hix hsl
            have Hsl := Lib.hid hsl
            have Hll := Lib.hid hll
            have Hone := Lib.hid (fun (u : Value) (hu : u ∈ flat mrC (X.l n)) => (show u.oneCell' = true by
              obtain ⟨r, hr, hu2⟩ := List.mem_flatMap.1 (by unfold flat at hu; exact hu)
              exact mrC_one' ((HX3.out n hn4).2 r hr) u hu2))
            have hlen : rl + ll ≤ 1600 := by
              have h1 : (tabs X.l n).length + (X.l n).length ≤ (tabs X.l 4).length := tabs_len_le X.l hn4 (Nat.le_refl _)
              rw [List.length_map] at hrl
              omega
            have Hown := Lib.hid hown
            have Hsc := Lib.hid (tabs_rows_succ X.l n)
            have Hdx : Hid (deepX X.l N a (n + 1) = (deepX X.l N a n || (decide (N < n) && decide (0 < ((tabs X.l 4).filter (overB (n : Int) a a)).length)))) := Lib.hid rfl
            generalize deepX X.l N a n = dn at *
            have hrl2 : Hid (((tabs X.l n).map (·.2)).length = rl) := Lib.hid hrl.symm
            clear hown hsl hv2 hll hb hrl
            go_upto_region 12 with (at_builtin; refine wpList_append_sl rfl (.tmp 48) (.tmp 49) 58 rfl W3.heap.size 35 i0 (.agg #[.int .i64 0, .int .i64 0, .string ⟨#[]⟩, .int .i64 0, .int .i64 0, .string ⟨#[]⟩, .int .i64 0, .int .i64 0, .slice none 0 0]) 9 104 Try.underlying58 Hi0.out Hz0.out Hz1.out Hz2.out rfl (by decide) (.slice xa rl xc) _ _ rfl Hown.out mrC_len (X.l n) ll Hll.out (.slice la ll lc) rfl Hsl.out Hone.out (by rw [hrl2.out]; unfold maxLen; omega) (by rw [hrl2.out]; omega) Hb.out.size ?_; intro v' w2 hown2 hg2)
            obtain ⟨ya, yc, rfl⟩ := own_slice hown2
            have Hb2 := Lib.hid (Hb.out.grown hg2 Hb.out.size (fun g e => (Hown.out.lt g e).1))
            have Hown2 : Hid (OwnM15 w2 W3.heap.size (.slice ya (((tabs X.l n).map (·.2)).length + ll) yc) ((tabs X.l (n + 1)).map (·.2))) := Lib.hid (by
              unfold OwnM15
              rw [Hsc.out, List.length_append, flat_append, ← Hll.out]
              exact hown2)
            have hs3 := (cell_of_blk (blk_bels Hb2.out HP3.out) 3).trans (show _ = some (.int .i64 N) from rfl)
            have hs1 := (cell_of_blk (blk_bels Hb2.out HP3.out) 1).trans (show _ = some (.string a) from rfl)
            clear hown2 hg2
            generalize ((tabs X.l n).map (·.2)).length + ll = rl2 at *
            by_cases hNn : N < (n : Int)
            · have Hro := Lib.hid (HRo.out (n : Int) a a w2 (blk_bels Hb2.out Hxb3.out) (HX3.out.below Hb2.out) Ha.out Ha.out)
              have hd1 : decide ((n : Int) > N) = true := decide_eq_true (by omega)
              go_wp2_with fail
              refine Hro.out.mono ?_
              rintro e w4 hh
              obtain ⟨oa, oc, rs, rfl, -, hr, hb4⟩ := hh.out
              have hk : ((tabs X.l 4).filter (overB (n : Int) a a)).length = rs.length := by
                have := congrArg List.length hr; rw [List.length_map, List.length_map] at this; exact this.symm
              have Hk := Lib.hid hk
              have Hb4 := Lib.hid (Hb2.out.trans (hb4.mono Hb2.out.size))
              have Hown4 := Lib.hid (own_below Hown2.out hb4)
              generalize rs.length = K at *
              clear hh hr hk hb4 hs3 hs1
              by_cases hK : 0 < K
              · have hk1 : decide ((K : Int) > 0) = true := decide_eq_true (by omega)
                have hk2 : decide (0 < (K : Int)) = true := decide_eq_true (by omega)
                have HD : Hid (deepX X.l N a (n + 1) = true) := Lib.hid (by rw [Hdx.out, Hk.out, decide_eq_true hNn, decide_eq_true hK]; cases dn <;> rfl)
                go_wp2_with fail
                go_roundw
                case rel => exact ⟨n + 1, by omega, by go_num, ya, rl2, yc, rfl, Hown4.out, by rw [HD.out], Hb4.out⟩
                case measure => simp [intOf]; omega
              · have hk1 : decide ((K : Int) > 0) = false := decide_eq_false (by omega)
                have hk2 : decide (0 < (K : Int)) = false := decide_eq_false (by omega)
                have HD : Hid (deepX X.l N a (n + 1) = dn) := Lib.hid (by rw [Hdx.out, Hk.out, decide_eq_false hK, Bool.and_false, Bool.or_false])
                go_wp2_with fail
                go_roundw
                case rel => exact ⟨n + 1, by omega, by go_num, ya, rl2, yc, rfl, Hown4.out, by rw [HD.out], Hb4.out⟩
                case measure => simp [intOf]; omega
            · have hd1 : decide ((n : Int) > N) = false := decide_eq_false (by omega)
              have HD : Hid (deepX X.l N a (n + 1) = dn) := Lib.hid (by rw [Hdx.out, decide_eq_false hNn, Bool.false_and, Bool.or_false])
              go_wp2_with fail
              go_roundw
              case rel => exact ⟨n + 1, by omega, by go_num, ya, rl2, yc, rfl, Hown2.out, by rw [HD.out], Hb2.out⟩
              case measure => simp [intOf]; omega
          · obtain rfl : n = 4 := by omega
            subst hrl
            have hall : IsMr wo (.slice xa ((tabs X.l 4).map (·.2)).length xc) ((tabs X.l 4).map (·.2)) := ⟨isSl_own mrC_len hown, fun r hr => by
              obtain ⟨k, hk, hr⟩ := rows_mem hr
              exact ((HX3.out k hk).2 r hr).below hb⟩
            have hb4 := hb
            have hxb1 := blk_bels hb4 Hxb3.out
            have f0 := (cell_of_blk (blk_bels hb4 HP3.out) 0).trans (show _ = some (.slice va vl vc) from rfl)
            have f1 := (cell_of_blk (blk_bels hb4 HP3.out) 1).trans (show _ = some (.string a) from rfl)
            have f2 := (cell_of_blk (blk_bels hb4 HP3.out) 2).trans (show _ = some (.string b) from rfl)
            have f3 := (cell_of_blk (blk_bels hb4 HP3.out) 3).trans (show _ = some (.int .i64 N) from rfl)
            have e0 := (cell_of_blk (blk_bels hb4 HV.out) 0).trans (show _ = some (.slice va0 vn0 vc0) from rfl)
            have e1 := (cell_of_blk (blk_bels hb4 HV.out) 1).trans (show _ = some (.slice va1 vn1 vc1) from rfl)
            have e2 := (cell_of_blk (blk_bels hb4 HV.out) 2).trans (show _ = some (.slice va2 vn2 vc2) from rfl)
            have e3 := (cell_of_blk (blk_bels hb4 HV.out) 3).trans (show _ = some (.slice va3 vn3 vc3) from rfl)
            clear hown hb Hb
            generalize ((tabs X.l 4).map (·.2)).length = rl4 at *
            obtain ⟨HN, HI, LV, HB, hx1, hv1, hge, hmx⟩ := has_both (N := N) hxb1 (HX3.out.below hb4) (HU3.out.below hb4) HeX.out HeU.out
            have hge2 : decide (HN ≥ 0) = HB := hge
            have Hx := Lib.hid hx1
            have Hv := Lib.hid hv1
            rw [Hc.out] at Hv
            clear hxb1 hx1 hv1
            go_wp2_with fail
            refine Hx.out.mono ?_
            rintro e wx ⟨rfl, rfl⟩
            go_wp2_with fail
            refine Hv.out.mono ?_
            rintro e W6 ⟨rfl, hb6⟩
            have hb36 := hb4.trans (hb6.mono hb4.size)
            have HAll := Lib.hid (hall.below hb6)
            have Hb6 := Lib.hid (Hb3.out.trans (hb36.mono Hb3.out.size))
            have hu6 := HU3.out.below hb36
            have hx6 := HX3.out.below hb36
            have hxb6 := blk_bels hb36 Hxb3.out
            have HTab := Lib.hid (fun (A : World) (hA : Below W6.heap.size W6 A) => tables_any U A (hu6.below hA) HT.out.1 HT.out.2)
            have HAt := Lib.hid (fun (A : World) (hA : Below W6.heap.size W6 A) => at_any U N a A (hu6.below hA) HT.out.1 HT.out.2 (fun n hn => vn_slv0 hu6 hn))
            have HOv := Lib.hid (fun (A : World) (hA : Below W6.heap.size W6 A) => over_any U N a b A (hu6.below hA) HT.out.1 HT.out.2)
            have HRo1 := Lib.hid (fun (A : World) (hA : Below W6.heap.size W6 A) => HRo.out N a a A (blk_bels hA hxb6) (hx6.below hA) Ha.out Ha.out)
            have HRo2 := Lib.hid (fun (A : World) (hA : Below W6.heap.size W6 A) => HRo.out N a b A (blk_bels hA hxb6) (hx6.below hA) Ha.out Hbm.out)
            have HLv := Lib.hid (fun (A : World) (hA : Below W6.heap.size W6 A) => live_any U N A (hu6.below hA) HT.out.1 HG.out.1)
            have HRl := Lib.hid (fun (A : World) (hA : Below W6.heap.size W6 A) => (rlive_any X xb N A (blk_bels hA hxb6) (hx6.below hA) (fun n hn => Nat.le_trans (HG.out.2 n hn).1 (by omega)) (fun n hn => (HG.out.2 n hn).2)).mono (fun e w' (q : e = .returned (.int .i64 (liveT N (tabs X.l 4))) ∧ A = w') => (⟨q.1, by rw [← q.2]; exact Below.refl _ _⟩ : e = .returned (.int .i64 (liveT N (tabs X.l 4))) ∧ Below A.heap.size A w')))
            have HDp := Lib.hid (fun (A : World) (hA : Below W6.heap.size W6 A) => deeper_any U N a A (hu6.below hA))
            rw [← live_eq Hpt.out N] at HRl
            rw [← deep_eq Hpt.out N a] at HDp
            rw [Hc.out] at HTab HAt HOv HLv HDp
            have HQ0 := Lib.hid (tabs_eq Hpt.out)
            have HQ1 := Lib.hid (over_eq Hpt.out N a a)
            have HQ2 := Lib.hid (over_eq Hpt.out N a b)
            generalize liveT N (tabs U.l 4) = LT at *
            generalize deepX X.l N a 4 = DX at *
            have hvb6 := blk_bels hb36 HV.out
            have hsb6 := blk_bels hb36 HP3.out
            clear e0 e1 e2 e3 f0 f1 f2 f3 Hx Hv
            have cv0 := (cell_of_blk hvb6 0).trans (show _ = some (.slice va0 vn0 vc0) from rfl)
            have cv1 := (cell_of_blk hvb6 1).trans (show _ = some (.slice va1 vn1 vc1) from rfl)
            have cv2 := (cell_of_blk hvb6 2).trans (show _ = some (.slice va2 vn2 vc2) from rfl)
            have cv3 := (cell_of_blk hvb6 3).trans (show _ = some (.slice va3 vn3 vc3) from rfl)
            have cs0 := (cell_of_blk hsb6 0).trans (show _ = some (.slice va vl vc) from rfl)
            have cs1 := (cell_of_blk hsb6 1).trans (show _ = some (.string a) from rfl)
            have cs2 := (cell_of_blk hsb6 2).trans (show _ = some (.string b) from rfl)
            have cs3 := (cell_of_blk hsb6 3).trans (show _ = some (.int .i64 N) from rfl)
            clear hvb6 hsb6 hb6 hb36 hu6 hx6 hxb6 hb4 hall
            go_wp2_with fail
            refine wp_region_held_drew (S := fun V' => Hid (Below W6.heap.size W6 V')) (by kernel_rfl) (Lib.hid ((Below.refl _ _).drew)) (fun hS0 => ?_)
            refine wpAnyH_take (i := 0) (oi := { dst := some 81, op := Op.load 48 (Operand.tmp 3), type := 48, pos := "law.go:143", after := #[], guard := none }) (v := ?_) rfl (by kernel_rfl) (by kernel_rfl) (by kernel_rfl) (fun _ _ _ h => h) (Or.inl ⟨by rfl, ?hy1⟩) hS0 ?_
            case hy1 => (intro V hSw; (try dsimp only at hSw); have q0 := grow_cell hSw.out (block_lt_of_cell cv0) cv0; have q1 := grow_cell hSw.out (block_lt_of_cell cv1) cv1; have q2 := grow_cell hSw.out (block_lt_of_cell cv2) cv2; have q3 := grow_cell hSw.out (block_lt_of_cell cv3) cv3; have q4 := grow_cell hSw.out (block_lt_of_cell cs0) cs0; have q5 := grow_cell hSw.out (block_lt_of_cell cs1) cs1; have q6 := grow_cell hSw.out (block_lt_of_cell cs2) cs2; have q7 := grow_cell hSw.out (block_lt_of_cell cs3) cs3; clear hSw; go_simp; try with_reducible rfl)
            try simp only [Act.put, List.setIfInBounds_toArray, List.set_cons_zero, List.set_cons_succ]
            refine wpAnyH_take (i := 2) (oi := { dst := some 83, op := Op.move (Operand.tmp 6), type := 58, pos := "law.go:143", after := #[], guard := none }) (v := ?_) rfl (by kernel_rfl) (by kernel_rfl) (by kernel_rfl) (fun _ _ _ h => h) (Or.inl ⟨by rfl, ?hy2⟩) hS0 ?_
            case hy2 => (intro V hSw; (try dsimp only at hSw); clear hSw; go_simp; try with_reducible rfl)
            try simp only [Act.put, List.setIfInBounds_toArray, List.set_cons_zero, List.set_cons_succ]
            refine wpAnyH_ready (rs := [1]) (by kernel_rfl) (by simp) (AllReadyH.cons rfl (fun K hK => ?_) AllReadyH.nil)
            go_simp
            refine (HTab.out _ hS0.out).mono ?_
            rintro e wv3 ⟨x3, rs3, rfl, ho3, hr3, hv3⟩
            obtain ⟨xa3, xc3, rfl⟩ := own_slice ho3.1
            have hS3 := Lib.hid (hS0.out.trans (hv3.mono hS0.out.size))
            have hm3 := Lib.hid ho3.isMr
            have hq3 := Lib.hid hr3
            clear ho3 hr3 hv3
            refine hK.out _ _ hS3 (fun _ => ?_)
            clear hK K
            try simp only [Act.put, List.setIfInBounds_toArray, List.set_cons_zero, List.set_cons_succ]
            refine wpAnyH_ready (rs := [3]) (by kernel_rfl) (by simp) (AllReadyH.cons rfl (fun K hK => ?_) AllReadyH.nil)
            go_simp
            refine (same_yes _ _ _ _ _ hm3.out (HAll.out.below hS3.out) (hq3.out.trans HQ0.out)).mono ?_
            rintro e wv4 ⟨rfl, hv4⟩
            have hS4 := Lib.hid (hS3.out.trans (hv4.mono hS3.out.size))
            clear hv4
            refine hK.out _ _ hS4 (fun _ => ?_)
            clear hK K
            try simp only [Act.put, List.setIfInBounds_toArray, List.set_cons_zero, List.set_cons_succ]
            refine wpAnyH_take (i := 4) (oi := { dst := some 85, op := Op.move (Operand.tmp 84), type := 4, pos := "law.go:143", after := #[{ on := 3, ground := Ground.data }, { on := 3, ground := Ground.chain }], guard := none }) (v := ?_) rfl (by kernel_rfl) (by kernel_rfl) (by kernel_rfl) (fun _ _ _ h => h) (Or.inl ⟨by rfl, ?hy5⟩) hS4 ?_
            case hy5 => (intro V hSw; (try dsimp only at hSw); clear hSw; go_simp; try with_reducible rfl)
            try simp only [Act.put, List.setIfInBounds_toArray, List.set_cons_zero, List.set_cons_succ]
            refine wpAnyH_take (i := 5) (oi := { dst := some 86, op := Op.load 48 (Operand.tmp 3), type := 48, pos := "law.go:143", after := #[{ on := 4, ground := Ground.guard }], guard := some (4, true) }) (v := ?_) rfl (by kernel_rfl) (by kernel_rfl) (by kernel_rfl) (fun _ _ _ h => h) (Or.inl ⟨by rfl, ?hy6⟩) hS4 ?_
            case hy6 => (intro V hSw; (try dsimp only at hSw); have q0 := grow_cell hSw.out (block_lt_of_cell cv0) cv0; have q1 := grow_cell hSw.out (block_lt_of_cell cv1) cv1; have q2 := grow_cell hSw.out (block_lt_of_cell cv2) cv2; have q3 := grow_cell hSw.out (block_lt_of_cell cv3) cv3; have q4 := grow_cell hSw.out (block_lt_of_cell cs0) cs0; have q5 := grow_cell hSw.out (block_lt_of_cell cs1) cs1; have q6 := grow_cell hSw.out (block_lt_of_cell cs2) cs2; have q7 := grow_cell hSw.out (block_lt_of_cell cs3) cs3; clear hSw; go_simp; try with_reducible rfl)
            try simp only [Act.put, List.setIfInBounds_toArray, List.set_cons_zero, List.set_cons_succ]
            refine wpAnyH_take (i := 6) (oi := { dst := some 87, op := Op.fieldAddr 67 (Operand.tmp 1) 3, type := 0, pos := "law.go:143", after := #[{ on := 4, ground := Ground.guard }], guard := some (4, true) }) (v := ?_) rfl (by kernel_rfl) (by kernel_rfl) (by kernel_rfl) (fun _ _ _ h => h) (Or.inl ⟨by rfl, ?hy7⟩) hS4 ?_
            case hy7 => (intro V hSw; (try dsimp only at hSw); clear hSw; go_simp; try with_reducible rfl)
            try simp only [Act.put, List.setIfInBounds_toArray, List.set_cons_zero, List.set_cons_succ]
            refine wpAnyH_take (i := 7) (oi := { dst := some 88, op := Op.load 3 (Operand.tmp 87), type := 3, pos := "law.go:143", after := #[{ on := 6, ground := Ground.data }, { on := 4, ground := Ground.guard }], guard := some (4, true) }) (v := ?_) rfl (by kernel_rfl) (by kernel_rfl) (by kernel_rfl) (fun _ _ _ h => h) (Or.inl ⟨by rfl, ?hy8⟩) hS4 ?_
            case hy8 => (intro V hSw; (try dsimp only at hSw); have q0 := grow_cell hSw.out (block_lt_of_cell cv0) cv0; have q1 := grow_cell hSw.out (block_lt_of_cell cv1) cv1; have q2 := grow_cell hSw.out (block_lt_of_cell cv2) cv2; have q3 := grow_cell hSw.out (block_lt_of_cell cv3) cv3; have q4 := grow_cell hSw.out (block_lt_of_cell cs0) cs0; have q5 := grow_cell hSw.out (block_lt_of_cell cs1) cs1; have q6 := grow_cell hSw.out (block_lt_of_cell cs2) cs2; have q7 := grow_cell hSw.out (block_lt_of_cell cs3) cs3; clear hSw; go_simp; try with_reducible rfl)
            try simp only [Act.put, List.setIfInBounds_toArray, List.set_cons_zero, List.set_cons_succ]
            refine wpAnyH_take (i := 8) (oi := { dst := some 89, op := Op.fieldAddr 67 (Operand.tmp 1) 1, type := 0, pos := "law.go:143", after := #[{ on := 4, ground := Ground.guard }], guard := some (4, true) }) (v := ?_) rfl (by kernel_rfl) (by kernel_rfl) (by kernel_rfl) (fun _ _ _ h => h) (Or.inl ⟨by rfl, ?hy9⟩) hS4 ?_
            case hy9 => (intro V hSw; (try dsimp only at hSw); clear hSw; go_simp; try with_reducible rfl)
            try simp only [Act.put, List.setIfInBounds_toArray, List.set_cons_zero, List.set_cons_succ]
            refine wpAnyH_take (i := 9) (oi := { dst := some 90, op := Op.load 9 (Operand.tmp 89), type := 9, pos := "law.go:143", after := #[{ on := 8, ground := Ground.data }, { on := 4, ground := Ground.guard }], guard := some (4, true) }) (v := ?_) rfl (by kernel_rfl) (by kernel_rfl) (by kernel_rfl) (fun _ _ _ h => h) (Or.inl ⟨by rfl, ?hy10⟩) hS4 ?_
            case hy10 => (intro V hSw; (try dsimp only at hSw); have q0 := grow_cell hSw.out (block_lt_of_cell cv0) cv0; have q1 := grow_cell hSw.out (block_lt_of_cell cv1) cv1; have q2 := grow_cell hSw.out (block_lt_of_cell cv2) cv2; have q3 := grow_cell hSw.out (block_lt_of_cell cv3) cv3; have q4 := grow_cell hSw.out (block_lt_of_cell cs0) cs0; have q5 := grow_cell hSw.out (block_lt_of_cell cs1) cs1; have q6 := grow_cell hSw.out (block_lt_of_cell cs2) cs2; have q7 := grow_cell hSw.out (block_lt_of_cell cs3) cs3; clear hSw; go_simp; try with_reducible rfl)
            try simp only [Act.put, List.setIfInBounds_toArray, List.set_cons_zero, List.set_cons_succ]
            refine wpAnyH_take (i := 11) (oi := { dst := some 92, op := Op.move (Operand.tmp 4), type := 49, pos := "law.go:143", after := #[{ on := 4, ground := Ground.guard }], guard := some (4, true) }) (v := ?_) rfl (by kernel_rfl) (by kernel_rfl) (by kernel_rfl) (fun _ _ _ h => h) (Or.inl ⟨by rfl, ?hy11⟩) hS4 ?_
            case hy11 => (intro V hSw; (try dsimp only at hSw); clear hSw; go_simp; try with_reducible rfl)
            try simp only [Act.put, List.setIfInBounds_toArray, List.set_cons_zero, List.set_cons_succ]
            refine wpAnyH_take (i := 12) (oi := { dst := some 93, op := Op.fieldAddr 67 (Operand.tmp 1) 3, type := 0, pos := "law.go:143", after := #[{ on := 4, ground := Ground.guard }], guard := some (4, true) }) (v := ?_) rfl (by kernel_rfl) (by kernel_rfl) (by kernel_rfl) (fun _ _ _ h => h) (Or.inl ⟨by rfl, ?hy12⟩) hS4 ?_
            case hy12 => (intro V hSw; (try dsimp only at hSw); clear hSw; go_simp; try with_reducible rfl)
            try simp only [Act.put, List.setIfInBounds_toArray, List.set_cons_zero, List.set_cons_succ]
            refine wpAnyH_take (i := 13) (oi := { dst := some 94, op := Op.load 3 (Operand.tmp 93), type := 3, pos := "law.go:143", after := #[{ on := 12, ground := Ground.data }, { on := 4, ground := Ground.guard }], guard := some (4, true) }) (v := ?_) rfl (by kernel_rfl) (by kernel_rfl) (by kernel_rfl) (fun _ _ _ h => h) (Or.inl ⟨by rfl, ?hy13⟩) hS4 ?_
            case hy13 => (intro V hSw; (try dsimp only at hSw); have q0 := grow_cell hSw.out (block_lt_of_cell cv0) cv0; have q1 := grow_cell hSw.out (block_lt_of_cell cv1) cv1; have q2 := grow_cell hSw.out (block_lt_of_cell cv2) cv2; have q3 := grow_cell hSw.out (block_lt_of_cell cv3) cv3; have q4 := grow_cell hSw.out (block_lt_of_cell cs0) cs0; have q5 := grow_cell hSw.out (block_lt_of_cell cs1) cs1; have q6 := grow_cell hSw.out (block_lt_of_cell cs2) cs2; have q7 := grow_cell hSw.out (block_lt_of_cell cs3) cs3; clear hSw; go_simp; try with_reducible rfl)
            try simp only [Act.put, List.setIfInBounds_toArray, List.set_cons_zero, List.set_cons_succ]
            refine wpAnyH_take (i := 14) (oi := { dst := some 95, op := Op.fieldAddr 67 (Operand.tmp 1) 1, type := 0, pos := "law.go:143", after := #[{ on := 4, ground := Ground.guard }], guard := some (4, true) }) (v := ?_) rfl (by kernel_rfl) (by kernel_rfl) (by kernel_rfl) (fun _ _ _ h => h) (Or.inl ⟨by rfl, ?hy14⟩) hS4 ?_
            case hy14 => (intro V hSw; (try dsimp only at hSw); clear hSw; go_simp; try with_reducible rfl)
            try simp only [Act.put, List.setIfInBounds_toArray, List.set_cons_zero, List.set_cons_succ]
            refine wpAnyH_take (i := 15) (oi := { dst := some 96, op := Op.load 9 (Operand.tmp 95), type := 9, pos := "law.go:143", after := #[{ on := 14, ground := Ground.data }, { on := 4, ground := Ground.guard }], guard := some (4, true) }) (v := ?_) rfl (by kernel_rfl) (by kernel_rfl) (by kernel_rfl) (fun _ _ _ h => h) (Or.inl ⟨by rfl, ?hy15⟩) hS4 ?_
            case hy15 => (intro V hSw; (try dsimp only at hSw); have q0 := grow_cell hSw.out (block_lt_of_cell cv0) cv0; have q1 := grow_cell hSw.out (block_lt_of_cell cv1) cv1; have q2 := grow_cell hSw.out (block_lt_of_cell cv2) cv2; have q3 := grow_cell hSw.out (block_lt_of_cell cv3) cv3; have q4 := grow_cell hSw.out (block_lt_of_cell cs0) cs0; have q5 := grow_cell hSw.out (block_lt_of_cell cs1) cs1; have q6 := grow_cell hSw.out (block_lt_of_cell cs2) cs2; have q7 := grow_cell hSw.out (block_lt_of_cell cs3) cs3; clear hSw; go_simp; try with_reducible rfl)
            try simp only [Act.put, List.setIfInBounds_toArray, List.set_cons_zero, List.set_cons_succ]
            refine wpAnyH_take (i := 16) (oi := { dst := some 97, op := Op.fieldAddr 67 (Operand.tmp 1) 1, type := 0, pos := "law.go:143", after := #[{ on := 4, ground := Ground.guard }], guard := some (4, true) }) (v := ?_) rfl (by kernel_rfl) (by kernel_rfl) (by kernel_rfl) (fun _ _ _ h => h) (Or.inl ⟨by rfl, ?hy16⟩) hS4 ?_
            case hy16 => (intro V hSw; (try dsimp only at hSw); clear hSw; go_simp; try with_reducible rfl)
            try simp only [Act.put, List.setIfInBounds_toArray, List.set_cons_zero, List.set_cons_succ]
            refine wpAnyH_take (i := 17) (oi := { dst := some 98, op := Op.load 9 (Operand.tmp 97), type := 9, pos := "law.go:143", after := #[{ on := 16, ground := Ground.data }, { on := 4, ground := Ground.guard }], guard := some (4, true) }) (v := ?_) rfl (by kernel_rfl) (by kernel_rfl) (by kernel_rfl) (fun _ _ _ h => h) (Or.inl ⟨by rfl, ?hy17⟩) hS4 ?_
            case hy17 => (intro V hSw; (try dsimp only at hSw); have q0 := grow_cell hSw.out (block_lt_of_cell cv0) cv0; have q1 := grow_cell hSw.out (block_lt_of_cell cv1) cv1; have q2 := grow_cell hSw.out (block_lt_of_cell cv2) cv2; have q3 := grow_cell hSw.out (block_lt_of_cell cv3) cv3; have q4 := grow_cell hSw.out (block_lt_of_cell cs0) cs0; have q5 := grow_cell hSw.out (block_lt_of_cell cs1) cs1; have q6 := grow_cell hSw.out (block_lt_of_cell cs2) cs2; have q7 := grow_cell hSw.out (block_lt_of_cell cs3) cs3; clear hSw; go_simp; try with_reducible rfl)
            try simp only [Act.put, List.setIfInBounds_toArray, List.set_cons_zero, List.set_cons_succ]
            refine wpAnyH_ready (rs := [10]) (by kernel_rfl) (by simp) (AllReadyH.cons rfl (fun K hK => ?_) AllReadyH.nil)
            go_simp
            refine (HAt.out _ hS4.out).mono ?_
            rintro e wv18 ⟨x18, rs18, rfl, ho18, hr18, hv18⟩
            obtain ⟨xa18, xc18, rfl⟩ := own_slice ho18.1
            have hS18 := Lib.hid (hS4.out.trans (hv18.mono hS4.out.size))
            have hm18 := Lib.hid ho18.isMr
            have hq18 := Lib.hid hr18
            clear ho18 hr18 hv18
            refine hK.out _ _ hS18 (fun _ => ?_)
            clear hK K
            try simp only [Act.put, List.setIfInBounds_toArray, List.set_cons_zero, List.set_cons_succ]
            refine wpAnyH_ready (rs := [18]) (by kernel_rfl) (by simp) (AllReadyH.cons rfl (fun K hK => ?_) AllReadyH.nil)
            go_simp
            refine (HRo1.out _ hS18.out).mono ?_
            rintro e wv19 hh19
            obtain ⟨xa19, xc19, rs19, rfl, ho19, hr19, hv19⟩ := hh19.out
            have hS19 := Lib.hid (hS18.out.trans (hv19.mono hS18.out.size))
            have hm19 := Lib.hid (hm18.out.below hv19)
            have hp19 := Lib.hid ho19
            have hq19 := Lib.hid ((hq18.out.trans HQ1.out).trans hr19.symm)
            clear hh19 ho19 hr19 hv19
            refine hK.out _ _ hS19 (fun _ => ?_)
            clear hK K
            try simp only [Act.put, List.setIfInBounds_toArray, List.set_cons_zero, List.set_cons_succ]
            refine wpAnyH_ready (rs := [19]) (by kernel_rfl) (by simp) (AllReadyH.cons rfl (fun K hK => ?_) AllReadyH.nil)
            go_simp
            refine (same_yes _ _ _ _ _ hm19.out hp19.out hq19.out).mono ?_
            rintro e wv20 ⟨rfl, hv20⟩
            have hS20 := Lib.hid (hS19.out.trans (hv20.mono hS19.out.size))
            clear hv20
            refine hK.out _ _ hS20 (fun _ => ?_)
            clear hK K
            try simp only [Act.put, List.setIfInBounds_toArray, List.set_cons_zero, List.set_cons_succ]
            refine wpAnyH_take (i := 20) (oi := { dst := some 101, op := Op.pick (Operand.tmp 85) (Operand.tmp 100) (Operand.const (Value.bool false)), type := 4, pos := "law.go:143", after := #[{ on := 4, ground := Ground.data }, { on := 19, ground := Ground.data }], guard := none }) (v := ?_) rfl (by kernel_rfl) (by kernel_rfl) (by kernel_rfl) (fun _ _ _ h => h) (Or.inl ⟨by rfl, ?hy21⟩) hS20 ?_
            case hy21 => (intro V hSw; (try dsimp only at hSw); clear hSw; go_simp; try with_reducible rfl)
            try simp only [Act.put, List.setIfInBounds_toArray, List.set_cons_zero, List.set_cons_succ]
            refine wpAnyH_take (i := 21) (oi := { dst := some 102, op := Op.move (Operand.tmp 101), type := 4, pos := "law.go:143", after := #[{ on := 20, ground := Ground.data }, { on := 19, ground := Ground.chain }], guard := none }) (v := ?_) rfl (by kernel_rfl) (by kernel_rfl) (by kernel_rfl) (fun _ _ _ h => h) (Or.inl ⟨by rfl, ?hy22⟩) hS20 ?_
            case hy22 => (intro V hSw; (try dsimp only at hSw); clear hSw; go_simp; try with_reducible rfl)
            try simp only [Act.put, List.setIfInBounds_toArray, List.set_cons_zero, List.set_cons_succ]
            refine wpAnyH_take (i := 22) (oi := { dst := some 103, op := Op.load 48 (Operand.tmp 3), type := 48, pos := "law.go:143", after := #[{ on := 21, ground := Ground.guard }], guard := some (21, true) }) (v := ?_) rfl (by kernel_rfl) (by kernel_rfl) (by kernel_rfl) (fun _ _ _ h => h) (Or.inl ⟨by rfl, ?hy23⟩) hS20 ?_
            case hy23 => (intro V hSw; (try dsimp only at hSw); have q0 := grow_cell hSw.out (block_lt_of_cell cv0) cv0; have q1 := grow_cell hSw.out (block_lt_of_cell cv1) cv1; have q2 := grow_cell hSw.out (block_lt_of_cell cv2) cv2; have q3 := grow_cell hSw.out (block_lt_of_cell cv3) cv3; have q4 := grow_cell hSw.out (block_lt_of_cell cs0) cs0; have q5 := grow_cell hSw.out (block_lt_of_cell cs1) cs1; have q6 := grow_cell hSw.out (block_lt_of_cell cs2) cs2; have q7 := grow_cell hSw.out (block_lt_of_cell cs3) cs3; clear hSw; go_simp; try with_reducible rfl)
            try simp only [Act.put, List.setIfInBounds_toArray, List.set_cons_zero, List.set_cons_succ]
            refine wpAnyH_take (i := 23) (oi := { dst := some 104, op := Op.fieldAddr 67 (Operand.tmp 1) 3, type := 0, pos := "law.go:143", after := #[{ on := 21, ground := Ground.guard }], guard := some (21, true) }) (v := ?_) rfl (by kernel_rfl) (by kernel_rfl) (by kernel_rfl) (fun _ _ _ h => h) (Or.inl ⟨by rfl, ?hy24⟩) hS20 ?_
            case hy24 => (intro V hSw; (try dsimp only at hSw); clear hSw; go_simp; try with_reducible rfl)
            try simp only [Act.put, List.setIfInBounds_toArray, List.set_cons_zero, List.set_cons_succ]
            refine wpAnyH_take (i := 24) (oi := { dst := some 105, op := Op.load 3 (Operand.tmp 104), type := 3, pos := "law.go:143", after := #[{ on := 23, ground := Ground.data }, { on := 21, ground := Ground.guard }], guard := some (21, true) }) (v := ?_) rfl (by kernel_rfl) (by kernel_rfl) (by kernel_rfl) (fun _ _ _ h => h) (Or.inl ⟨by rfl, ?hy25⟩) hS20 ?_
            case hy25 => (intro V hSw; (try dsimp only at hSw); have q0 := grow_cell hSw.out (block_lt_of_cell cv0) cv0; have q1 := grow_cell hSw.out (block_lt_of_cell cv1) cv1; have q2 := grow_cell hSw.out (block_lt_of_cell cv2) cv2; have q3 := grow_cell hSw.out (block_lt_of_cell cv3) cv3; have q4 := grow_cell hSw.out (block_lt_of_cell cs0) cs0; have q5 := grow_cell hSw.out (block_lt_of_cell cs1) cs1; have q6 := grow_cell hSw.out (block_lt_of_cell cs2) cs2; have q7 := grow_cell hSw.out (block_lt_of_cell cs3) cs3; clear hSw; go_simp; try with_reducible rfl)
            try simp only [Act.put, List.setIfInBounds_toArray, List.set_cons_zero, List.set_cons_succ]
            refine wpAnyH_take (i := 25) (oi := { dst := some 106, op := Op.fieldAddr 67 (Operand.tmp 1) 1, type := 0, pos := "law.go:143", after := #[{ on := 21, ground := Ground.guard }], guard := some (21, true) }) (v := ?_) rfl (by kernel_rfl) (by kernel_rfl) (by kernel_rfl) (fun _ _ _ h => h) (Or.inl ⟨by rfl, ?hy26⟩) hS20 ?_
            case hy26 => (intro V hSw; (try dsimp only at hSw); clear hSw; go_simp; try with_reducible rfl)
            try simp only [Act.put, List.setIfInBounds_toArray, List.set_cons_zero, List.set_cons_succ]
            refine wpAnyH_take (i := 26) (oi := { dst := some 107, op := Op.load 9 (Operand.tmp 106), type := 9, pos := "law.go:143", after := #[{ on := 25, ground := Ground.data }, { on := 21, ground := Ground.guard }], guard := some (21, true) }) (v := ?_) rfl (by kernel_rfl) (by kernel_rfl) (by kernel_rfl) (fun _ _ _ h => h) (Or.inl ⟨by rfl, ?hy27⟩) hS20 ?_
            case hy27 => (intro V hSw; (try dsimp only at hSw); have q0 := grow_cell hSw.out (block_lt_of_cell cv0) cv0; have q1 := grow_cell hSw.out (block_lt_of_cell cv1) cv1; have q2 := grow_cell hSw.out (block_lt_of_cell cv2) cv2; have q3 := grow_cell hSw.out (block_lt_of_cell cv3) cv3; have q4 := grow_cell hSw.out (block_lt_of_cell cs0) cs0; have q5 := grow_cell hSw.out (block_lt_of_cell cs1) cs1; have q6 := grow_cell hSw.out (block_lt_of_cell cs2) cs2; have q7 := grow_cell hSw.out (block_lt_of_cell cs3) cs3; clear hSw; go_simp; try with_reducible rfl)
            try simp only [Act.put, List.setIfInBounds_toArray, List.set_cons_zero, List.set_cons_succ]
            refine wpAnyH_take (i := 27) (oi := { dst := some 108, op := Op.fieldAddr 67 (Operand.tmp 1) 2, type := 0, pos := "law.go:143", after := #[{ on := 21, ground := Ground.guard }], guard := some (21, true) }) (v := ?_) rfl (by kernel_rfl) (by kernel_rfl) (by kernel_rfl) (fun _ _ _ h => h) (Or.inl ⟨by rfl, ?hy28⟩) hS20 ?_
            case hy28 => (intro V hSw; (try dsimp only at hSw); clear hSw; go_simp; try with_reducible rfl)
            try simp only [Act.put, List.setIfInBounds_toArray, List.set_cons_zero, List.set_cons_succ]
            refine wpAnyH_take (i := 28) (oi := { dst := some 109, op := Op.load 9 (Operand.tmp 108), type := 9, pos := "law.go:143", after := #[{ on := 27, ground := Ground.data }, { on := 21, ground := Ground.guard }], guard := some (21, true) }) (v := ?_) rfl (by kernel_rfl) (by kernel_rfl) (by kernel_rfl) (fun _ _ _ h => h) (Or.inl ⟨by rfl, ?hy29⟩) hS20 ?_
            case hy29 => (intro V hSw; (try dsimp only at hSw); have q0 := grow_cell hSw.out (block_lt_of_cell cv0) cv0; have q1 := grow_cell hSw.out (block_lt_of_cell cv1) cv1; have q2 := grow_cell hSw.out (block_lt_of_cell cv2) cv2; have q3 := grow_cell hSw.out (block_lt_of_cell cv3) cv3; have q4 := grow_cell hSw.out (block_lt_of_cell cs0) cs0; have q5 := grow_cell hSw.out (block_lt_of_cell cs1) cs1; have q6 := grow_cell hSw.out (block_lt_of_cell cs2) cs2; have q7 := grow_cell hSw.out (block_lt_of_cell cs3) cs3; clear hSw; go_simp; try with_reducible rfl)
            try simp only [Act.put, List.setIfInBounds_toArray, List.set_cons_zero, List.set_cons_succ]
            refine wpAnyH_take (i := 30) (oi := { dst := some 111, op := Op.move (Operand.tmp 4), type := 49, pos := "law.go:143", after := #[{ on := 21, ground := Ground.guard }], guard := some (21, true) }) (v := ?_) rfl (by kernel_rfl) (by kernel_rfl) (by kernel_rfl) (fun _ _ _ h => h) (Or.inl ⟨by rfl, ?hy30⟩) hS20 ?_
            case hy30 => (intro V hSw; (try dsimp only at hSw); clear hSw; go_simp; try with_reducible rfl)
            try simp only [Act.put, List.setIfInBounds_toArray, List.set_cons_zero, List.set_cons_succ]
            refine wpAnyH_take (i := 31) (oi := { dst := some 112, op := Op.fieldAddr 67 (Operand.tmp 1) 3, type := 0, pos := "law.go:143", after := #[{ on := 21, ground := Ground.guard }], guard := some (21, true) }) (v := ?_) rfl (by kernel_rfl) (by kernel_rfl) (by kernel_rfl) (fun _ _ _ h => h) (Or.inl ⟨by rfl, ?hy31⟩) hS20 ?_
            case hy31 => (intro V hSw; (try dsimp only at hSw); clear hSw; go_simp; try with_reducible rfl)
            try simp only [Act.put, List.setIfInBounds_toArray, List.set_cons_zero, List.set_cons_succ]
            refine wpAnyH_take (i := 32) (oi := { dst := some 113, op := Op.load 3 (Operand.tmp 112), type := 3, pos := "law.go:143", after := #[{ on := 31, ground := Ground.data }, { on := 21, ground := Ground.guard }], guard := some (21, true) }) (v := ?_) rfl (by kernel_rfl) (by kernel_rfl) (by kernel_rfl) (fun _ _ _ h => h) (Or.inl ⟨by rfl, ?hy32⟩) hS20 ?_
            case hy32 => (intro V hSw; (try dsimp only at hSw); have q0 := grow_cell hSw.out (block_lt_of_cell cv0) cv0; have q1 := grow_cell hSw.out (block_lt_of_cell cv1) cv1; have q2 := grow_cell hSw.out (block_lt_of_cell cv2) cv2; have q3 := grow_cell hSw.out (block_lt_of_cell cv3) cv3; have q4 := grow_cell hSw.out (block_lt_of_cell cs0) cs0; have q5 := grow_cell hSw.out (block_lt_of_cell cs1) cs1; have q6 := grow_cell hSw.out (block_lt_of_cell cs2) cs2; have q7 := grow_cell hSw.out (block_lt_of_cell cs3) cs3; clear hSw; go_simp; try with_reducible rfl)
            try simp only [Act.put, List.setIfInBounds_toArray, List.set_cons_zero, List.set_cons_succ]
            refine wpAnyH_take (i := 33) (oi := { dst := some 114, op := Op.fieldAddr 67 (Operand.tmp 1) 1, type := 0, pos := "law.go:143", after := #[{ on := 21, ground := Ground.guard }], guard := some (21, true) }) (v := ?_) rfl (by kernel_rfl) (by kernel_rfl) (by kernel_rfl) (fun _ _ _ h => h) (Or.inl ⟨by rfl, ?hy33⟩) hS20 ?_
            case hy33 => (intro V hSw; (try dsimp only at hSw); clear hSw; go_simp; try with_reducible rfl)
            try simp only [Act.put, List.setIfInBounds_toArray, List.set_cons_zero, List.set_cons_succ]
            refine wpAnyH_take (i := 34) (oi := { dst := some 115, op := Op.load 9 (Operand.tmp 114), type := 9, pos := "law.go:143", after := #[{ on := 33, ground := Ground.data }, { on := 21, ground := Ground.guard }], guard := some (21, true) }) (v := ?_) rfl (by kernel_rfl) (by kernel_rfl) (by kernel_rfl) (fun _ _ _ h => h) (Or.inl ⟨by rfl, ?hy34⟩) hS20 ?_
            case hy34 => (intro V hSw; (try dsimp only at hSw); have q0 := grow_cell hSw.out (block_lt_of_cell cv0) cv0; have q1 := grow_cell hSw.out (block_lt_of_cell cv1) cv1; have q2 := grow_cell hSw.out (block_lt_of_cell cv2) cv2; have q3 := grow_cell hSw.out (block_lt_of_cell cv3) cv3; have q4 := grow_cell hSw.out (block_lt_of_cell cs0) cs0; have q5 := grow_cell hSw.out (block_lt_of_cell cs1) cs1; have q6 := grow_cell hSw.out (block_lt_of_cell cs2) cs2; have q7 := grow_cell hSw.out (block_lt_of_cell cs3) cs3; clear hSw; go_simp; try with_reducible rfl)
            try simp only [Act.put, List.setIfInBounds_toArray, List.set_cons_zero, List.set_cons_succ]
            refine wpAnyH_take (i := 35) (oi := { dst := some 116, op := Op.fieldAddr 67 (Operand.tmp 1) 2, type := 0, pos := "law.go:143", after := #[{ on := 21, ground := Ground.guard }], guard := some (21, true) }) (v := ?_) rfl (by kernel_rfl) (by kernel_rfl) (by kernel_rfl) (fun _ _ _ h => h) (Or.inl ⟨by rfl, ?hy35⟩) hS20 ?_
            case hy35 => (intro V hSw; (try dsimp only at hSw); clear hSw; go_simp; try with_reducible rfl)
            try simp only [Act.put, List.setIfInBounds_toArray, List.set_cons_zero, List.set_cons_succ]
            refine wpAnyH_take (i := 36) (oi := { dst := some 117, op := Op.load 9 (Operand.tmp 116), type := 9, pos := "law.go:143", after := #[{ on := 35, ground := Ground.data }, { on := 21, ground := Ground.guard }], guard := some (21, true) }) (v := ?_) rfl (by kernel_rfl) (by kernel_rfl) (by kernel_rfl) (fun _ _ _ h => h) (Or.inl ⟨by rfl, ?hy36⟩) hS20 ?_
            case hy36 => (intro V hSw; (try dsimp only at hSw); have q0 := grow_cell hSw.out (block_lt_of_cell cv0) cv0; have q1 := grow_cell hSw.out (block_lt_of_cell cv1) cv1; have q2 := grow_cell hSw.out (block_lt_of_cell cv2) cv2; have q3 := grow_cell hSw.out (block_lt_of_cell cv3) cv3; have q4 := grow_cell hSw.out (block_lt_of_cell cs0) cs0; have q5 := grow_cell hSw.out (block_lt_of_cell cs1) cs1; have q6 := grow_cell hSw.out (block_lt_of_cell cs2) cs2; have q7 := grow_cell hSw.out (block_lt_of_cell cs3) cs3; clear hSw; go_simp; try with_reducible rfl)
            try simp only [Act.put, List.setIfInBounds_toArray, List.set_cons_zero, List.set_cons_succ]
            refine wpAnyH_ready (rs := [29]) (by kernel_rfl) (by simp) (AllReadyH.cons rfl (fun K hK => ?_) AllReadyH.nil)
            go_simp
            refine (HOv.out _ hS20.out).mono ?_
            rintro e wv37 ⟨x37, rs37, rfl, ho37, hr37, hv37⟩
            obtain ⟨xa37, xc37, rfl⟩ := own_slice ho37.1
            have hS37 := Lib.hid (hS20.out.trans (hv37.mono hS20.out.size))
            have hm37 := Lib.hid ho37.isMr
            have hq37 := Lib.hid hr37
            clear ho37 hr37 hv37
            refine hK.out _ _ hS37 (fun _ => ?_)
            clear hK K
            try simp only [Act.put, List.setIfInBounds_toArray, List.set_cons_zero, List.set_cons_succ]
            refine wpAnyH_ready (rs := [37]) (by kernel_rfl) (by simp) (AllReadyH.cons rfl (fun K hK => ?_) AllReadyH.nil)
            go_simp
            refine (HRo2.out _ hS37.out).mono ?_
            rintro e wv38 hh38
            obtain ⟨xa38, xc38, rs38, rfl, ho38, hr38, hv38⟩ := hh38.out
            have hS38 := Lib.hid (hS37.out.trans (hv38.mono hS37.out.size))
            have hm38 := Lib.hid (hm37.out.below hv38)
            have hp38 := Lib.hid ho38
            have hq38 := Lib.hid ((hq37.out.trans HQ2.out).trans hr38.symm)
            clear hh38 ho38 hr38 hv38
            refine hK.out _ _ hS38 (fun _ => ?_)
            clear hK K
            try simp only [Act.put, List.setIfInBounds_toArray, List.set_cons_zero, List.set_cons_succ]
            refine wpAnyH_ready (rs := [38]) (by kernel_rfl) (by simp) (AllReadyH.cons rfl (fun K hK => ?_) AllReadyH.nil)
            go_simp
            refine (same_yes _ _ _ _ _ hm38.out hp38.out hq38.out).mono ?_
            rintro e wv39 ⟨rfl, hv39⟩
            have hS39 := Lib.hid (hS38.out.trans (hv39.mono hS38.out.size))
            clear hv39
            refine hK.out _ _ hS39 (fun _ => ?_)
            clear hK K
            try simp only [Act.put, List.setIfInBounds_toArray, List.set_cons_zero, List.set_cons_succ]
            refine wpAnyH_take (i := 39) (oi := { dst := some 120, op := Op.pick (Operand.tmp 102) (Operand.tmp 119) (Operand.const (Value.bool false)), type := 4, pos := "law.go:143", after := #[{ on := 21, ground := Ground.data }, { on := 38, ground := Ground.data }], guard := none }) (v := ?_) rfl (by kernel_rfl) (by kernel_rfl) (by kernel_rfl) (fun _ _ _ h => h) (Or.inl ⟨by rfl, ?hy40⟩) hS39 ?_
            case hy40 => (intro V hSw; (try dsimp only at hSw); clear hSw; go_simp; try with_reducible rfl)
            try simp only [Act.put, List.setIfInBounds_toArray, List.set_cons_zero, List.set_cons_succ]
            refine wpAnyH_take (i := 40) (oi := { dst := some 121, op := Op.move (Operand.tmp 120), type := 4, pos := "law.go:143", after := #[{ on := 39, ground := Ground.data }, { on := 38, ground := Ground.chain }], guard := none }) (v := ?_) rfl (by kernel_rfl) (by kernel_rfl) (by kernel_rfl) (fun _ _ _ h => h) (Or.inl ⟨by rfl, ?hy41⟩) hS39 ?_
            case hy41 => (intro V hSw; (try dsimp only at hSw); clear hSw; go_simp; try with_reducible rfl)
            try simp only [Act.put, List.setIfInBounds_toArray, List.set_cons_zero, List.set_cons_succ]
            refine wpAnyH_take (i := 41) (oi := { dst := some 122, op := Op.load 48 (Operand.tmp 3), type := 48, pos := "law.go:143", after := #[{ on := 40, ground := Ground.guard }], guard := some (40, true) }) (v := ?_) rfl (by kernel_rfl) (by kernel_rfl) (by kernel_rfl) (fun _ _ _ h => h) (Or.inl ⟨by rfl, ?hy42⟩) hS39 ?_
            case hy42 => (intro V hSw; (try dsimp only at hSw); have q0 := grow_cell hSw.out (block_lt_of_cell cv0) cv0; have q1 := grow_cell hSw.out (block_lt_of_cell cv1) cv1; have q2 := grow_cell hSw.out (block_lt_of_cell cv2) cv2; have q3 := grow_cell hSw.out (block_lt_of_cell cv3) cv3; have q4 := grow_cell hSw.out (block_lt_of_cell cs0) cs0; have q5 := grow_cell hSw.out (block_lt_of_cell cs1) cs1; have q6 := grow_cell hSw.out (block_lt_of_cell cs2) cs2; have q7 := grow_cell hSw.out (block_lt_of_cell cs3) cs3; clear hSw; go_simp; try with_reducible rfl)
            try simp only [Act.put, List.setIfInBounds_toArray, List.set_cons_zero, List.set_cons_succ]
            refine wpAnyH_take (i := 42) (oi := { dst := some 123, op := Op.fieldAddr 67 (Operand.tmp 1) 3, type := 0, pos := "law.go:143", after := #[{ on := 40, ground := Ground.guard }], guard := some (40, true) }) (v := ?_) rfl (by kernel_rfl) (by kernel_rfl) (by kernel_rfl) (fun _ _ _ h => h) (Or.inl ⟨by rfl, ?hy43⟩) hS39 ?_
            case hy43 => (intro V hSw; (try dsimp only at hSw); clear hSw; go_simp; try with_reducible rfl)
            try simp only [Act.put, List.setIfInBounds_toArray, List.set_cons_zero, List.set_cons_succ]
            refine wpAnyH_take (i := 43) (oi := { dst := some 124, op := Op.load 3 (Operand.tmp 123), type := 3, pos := "law.go:143", after := #[{ on := 42, ground := Ground.data }, { on := 40, ground := Ground.guard }], guard := some (40, true) }) (v := ?_) rfl (by kernel_rfl) (by kernel_rfl) (by kernel_rfl) (fun _ _ _ h => h) (Or.inl ⟨by rfl, ?hy44⟩) hS39 ?_
            case hy44 => (intro V hSw; (try dsimp only at hSw); have q0 := grow_cell hSw.out (block_lt_of_cell cv0) cv0; have q1 := grow_cell hSw.out (block_lt_of_cell cv1) cv1; have q2 := grow_cell hSw.out (block_lt_of_cell cv2) cv2; have q3 := grow_cell hSw.out (block_lt_of_cell cv3) cv3; have q4 := grow_cell hSw.out (block_lt_of_cell cs0) cs0; have q5 := grow_cell hSw.out (block_lt_of_cell cs1) cs1; have q6 := grow_cell hSw.out (block_lt_of_cell cs2) cs2; have q7 := grow_cell hSw.out (block_lt_of_cell cs3) cs3; clear hSw; go_simp; try with_reducible rfl)
            try simp only [Act.put, List.setIfInBounds_toArray, List.set_cons_zero, List.set_cons_succ]
            refine wpAnyH_take (i := 45) (oi := { dst := some 126, op := Op.move (Operand.tmp 4), type := 49, pos := "law.go:143", after := #[{ on := 40, ground := Ground.guard }], guard := some (40, true) }) (v := ?_) rfl (by kernel_rfl) (by kernel_rfl) (by kernel_rfl) (fun _ _ _ h => h) (Or.inl ⟨by rfl, ?hy45⟩) hS39 ?_
            case hy45 => (intro V hSw; (try dsimp only at hSw); clear hSw; go_simp; try with_reducible rfl)
            try simp only [Act.put, List.setIfInBounds_toArray, List.set_cons_zero, List.set_cons_succ]
            refine wpAnyH_take (i := 46) (oi := { dst := some 127, op := Op.fieldAddr 67 (Operand.tmp 1) 3, type := 0, pos := "law.go:143", after := #[{ on := 40, ground := Ground.guard }], guard := some (40, true) }) (v := ?_) rfl (by kernel_rfl) (by kernel_rfl) (by kernel_rfl) (fun _ _ _ h => h) (Or.inl ⟨by rfl, ?hy46⟩) hS39 ?_
            case hy46 => (intro V hSw; (try dsimp only at hSw); clear hSw; go_simp; try with_reducible rfl)
            try simp only [Act.put, List.setIfInBounds_toArray, List.set_cons_zero, List.set_cons_succ]
            refine wpAnyH_take (i := 47) (oi := { dst := some 128, op := Op.load 3 (Operand.tmp 127), type := 3, pos := "law.go:143", after := #[{ on := 46, ground := Ground.data }, { on := 40, ground := Ground.guard }], guard := some (40, true) }) (v := ?_) rfl (by kernel_rfl) (by kernel_rfl) (by kernel_rfl) (fun _ _ _ h => h) (Or.inl ⟨by rfl, ?hy47⟩) hS39 ?_
            case hy47 => (intro V hSw; (try dsimp only at hSw); have q0 := grow_cell hSw.out (block_lt_of_cell cv0) cv0; have q1 := grow_cell hSw.out (block_lt_of_cell cv1) cv1; have q2 := grow_cell hSw.out (block_lt_of_cell cv2) cv2; have q3 := grow_cell hSw.out (block_lt_of_cell cv3) cv3; have q4 := grow_cell hSw.out (block_lt_of_cell cs0) cs0; have q5 := grow_cell hSw.out (block_lt_of_cell cs1) cs1; have q6 := grow_cell hSw.out (block_lt_of_cell cs2) cs2; have q7 := grow_cell hSw.out (block_lt_of_cell cs3) cs3; clear hSw; go_simp; try with_reducible rfl)
            try simp only [Act.put, List.setIfInBounds_toArray, List.set_cons_zero, List.set_cons_succ]
            refine wpAnyH_ready (rs := [44]) (by kernel_rfl) (by simp) (AllReadyH.cons rfl (fun K hK => ?_) AllReadyH.nil)
            go_simp
            refine (HLv.out _ hS39.out).mono ?_
            rintro e wv48 ⟨rfl, hv48⟩
            have hS48 := Lib.hid (hS39.out.trans (hv48.mono hS39.out.size))
            clear hv48
            refine hK.out _ _ hS48 (fun _ => ?_)
            clear hK K
            try simp only [Act.put, List.setIfInBounds_toArray, List.set_cons_zero, List.set_cons_succ]
            refine wpAnyH_ready (rs := [48]) (by kernel_rfl) (by simp) (AllReadyH.cons rfl (fun K hK => ?_) AllReadyH.nil)
            go_simp
            refine (HRl.out _ hS48.out).mono ?_
            rintro e wv49 ⟨rfl, hv49⟩
            have hS49 := Lib.hid (hS48.out.trans (hv49.mono hS48.out.size))
            clear hv49
            refine hK.out _ _ hS49 (fun _ => ?_)
            clear hK K
            try simp only [Act.put, List.setIfInBounds_toArray, List.set_cons_zero, List.set_cons_succ]
            refine wpAnyH_take (i := 49) (oi := { dst := some 130, op := Op.binOp BinOp.eql 3 (Operand.tmp 125) (Operand.tmp 129) 3, type := 4, pos := "law.go:143", after := #[{ on := 44, ground := Ground.data }, { on := 48, ground := Ground.data }, { on := 40, ground := Ground.guard }], guard := some (40, true) }) (v := ?_) rfl (by kernel_rfl) (by kernel_rfl) (by kernel_rfl) (fun _ _ _ h => h) (Or.inl ⟨by rfl, ?hy50⟩) hS49 ?_
            case hy50 => (intro V hSw; (try dsimp only at hSw); clear hSw; go_simp; try with_reducible rfl)
            try simp only [Act.put, List.setIfInBounds_toArray, List.set_cons_zero, List.set_cons_succ]
            refine wpAnyH_take (i := 50) (oi := { dst := some 131, op := Op.pick (Operand.tmp 121) (Operand.tmp 130) (Operand.const (Value.bool false)), type := 4, pos := "law.go:143", after := #[{ on := 40, ground := Ground.data }, { on := 49, ground := Ground.data }], guard := none }) (v := ?_) rfl (by kernel_rfl) (by kernel_rfl) (by kernel_rfl) (fun _ _ _ h => h) (Or.inl ⟨by rfl, ?hy51⟩) hS49 ?_
            case hy51 => (intro V hSw; (try dsimp only at hSw); clear hSw; go_simp; try with_reducible rfl)
            try simp only [Act.put, List.setIfInBounds_toArray, List.set_cons_zero, List.set_cons_succ]
            refine wpAnyH_take (i := 51) (oi := { dst := some 132, op := Op.move (Operand.tmp 131), type := 4, pos := "law.go:143", after := #[{ on := 50, ground := Ground.data }, { on := 48, ground := Ground.chain }], guard := none }) (v := ?_) rfl (by kernel_rfl) (by kernel_rfl) (by kernel_rfl) (fun _ _ _ h => h) (Or.inl ⟨by rfl, ?hy52⟩) hS49 ?_
            case hy52 => (intro V hSw; (try dsimp only at hSw); clear hSw; go_simp; try with_reducible rfl)
            try simp only [Act.put, List.setIfInBounds_toArray, List.set_cons_zero, List.set_cons_succ]
            refine wpAnyH_take (i := 52) (oi := { dst := some 133, op := Op.load 48 (Operand.tmp 3), type := 48, pos := "law.go:143", after := #[{ on := 51, ground := Ground.guard }], guard := some (51, true) }) (v := ?_) rfl (by kernel_rfl) (by kernel_rfl) (by kernel_rfl) (fun _ _ _ h => h) (Or.inl ⟨by rfl, ?hy53⟩) hS49 ?_
            case hy53 => (intro V hSw; (try dsimp only at hSw); have q0 := grow_cell hSw.out (block_lt_of_cell cv0) cv0; have q1 := grow_cell hSw.out (block_lt_of_cell cv1) cv1; have q2 := grow_cell hSw.out (block_lt_of_cell cv2) cv2; have q3 := grow_cell hSw.out (block_lt_of_cell cv3) cv3; have q4 := grow_cell hSw.out (block_lt_of_cell cs0) cs0; have q5 := grow_cell hSw.out (block_lt_of_cell cs1) cs1; have q6 := grow_cell hSw.out (block_lt_of_cell cs2) cs2; have q7 := grow_cell hSw.out (block_lt_of_cell cs3) cs3; clear hSw; go_simp; try with_reducible rfl)
            try simp only [Act.put, List.setIfInBounds_toArray, List.set_cons_zero, List.set_cons_succ]
            refine wpAnyH_take (i := 53) (oi := { dst := some 134, op := Op.fieldAddr 67 (Operand.tmp 1) 3, type := 0, pos := "law.go:143", after := #[{ on := 51, ground := Ground.guard }], guard := some (51, true) }) (v := ?_) rfl (by kernel_rfl) (by kernel_rfl) (by kernel_rfl) (fun _ _ _ h => h) (Or.inl ⟨by rfl, ?hy54⟩) hS49 ?_
            case hy54 => (intro V hSw; (try dsimp only at hSw); clear hSw; go_simp; try with_reducible rfl)
            try simp only [Act.put, List.setIfInBounds_toArray, List.set_cons_zero, List.set_cons_succ]
            refine wpAnyH_take (i := 54) (oi := { dst := some 135, op := Op.load 3 (Operand.tmp 134), type := 3, pos := "law.go:143", after := #[{ on := 53, ground := Ground.data }, { on := 51, ground := Ground.guard }], guard := some (51, true) }) (v := ?_) rfl (by kernel_rfl) (by kernel_rfl) (by kernel_rfl) (fun _ _ _ h => h) (Or.inl ⟨by rfl, ?hy55⟩) hS49 ?_
            case hy55 => (intro V hSw; (try dsimp only at hSw); have q0 := grow_cell hSw.out (block_lt_of_cell cv0) cv0; have q1 := grow_cell hSw.out (block_lt_of_cell cv1) cv1; have q2 := grow_cell hSw.out (block_lt_of_cell cv2) cv2; have q3 := grow_cell hSw.out (block_lt_of_cell cv3) cv3; have q4 := grow_cell hSw.out (block_lt_of_cell cs0) cs0; have q5 := grow_cell hSw.out (block_lt_of_cell cs1) cs1; have q6 := grow_cell hSw.out (block_lt_of_cell cs2) cs2; have q7 := grow_cell hSw.out (block_lt_of_cell cs3) cs3; clear hSw; go_simp; try with_reducible rfl)
            try simp only [Act.put, List.setIfInBounds_toArray, List.set_cons_zero, List.set_cons_succ]
            refine wpAnyH_take (i := 55) (oi := { dst := some 136, op := Op.fieldAddr 67 (Operand.tmp 1) 1, type := 0, pos := "law.go:143", after := #[{ on := 51, ground := Ground.guard }], guard := some (51, true) }) (v := ?_) rfl (by kernel_rfl) (by kernel_rfl) (by kernel_rfl) (fun _ _ _ h => h) (Or.inl ⟨by rfl, ?hy56⟩) hS49 ?_
            case hy56 => (intro V hSw; (try dsimp only at hSw); clear hSw; go_simp; try with_reducible rfl)
            try simp only [Act.put, List.setIfInBounds_toArray, List.set_cons_zero, List.set_cons_succ]
            refine wpAnyH_take (i := 56) (oi := { dst := some 137, op := Op.load 9 (Operand.tmp 136), type := 9, pos := "law.go:143", after := #[{ on := 55, ground := Ground.data }, { on := 51, ground := Ground.guard }], guard := some (51, true) }) (v := ?_) rfl (by kernel_rfl) (by kernel_rfl) (by kernel_rfl) (fun _ _ _ h => h) (Or.inl ⟨by rfl, ?hy57⟩) hS49 ?_
            case hy57 => (intro V hSw; (try dsimp only at hSw); have q0 := grow_cell hSw.out (block_lt_of_cell cv0) cv0; have q1 := grow_cell hSw.out (block_lt_of_cell cv1) cv1; have q2 := grow_cell hSw.out (block_lt_of_cell cv2) cv2; have q3 := grow_cell hSw.out (block_lt_of_cell cv3) cv3; have q4 := grow_cell hSw.out (block_lt_of_cell cs0) cs0; have q5 := grow_cell hSw.out (block_lt_of_cell cs1) cs1; have q6 := grow_cell hSw.out (block_lt_of_cell cs2) cs2; have q7 := grow_cell hSw.out (block_lt_of_cell cs3) cs3; clear hSw; go_simp; try with_reducible rfl)
            try simp only [Act.put, List.setIfInBounds_toArray, List.set_cons_zero, List.set_cons_succ]
            refine wpAnyH_take (i := 58) (oi := { dst := some 139, op := Op.move (Operand.tmp 7), type := 4, pos := "law.go:143", after := #[{ on := 51, ground := Ground.guard }], guard := some (51, true) }) (v := ?_) rfl (by kernel_rfl) (by kernel_rfl) (by kernel_rfl) (fun _ _ _ h => h) (Or.inl ⟨by rfl, ?hy58⟩) hS49 ?_
            case hy58 => (intro V hSw; (try dsimp only at hSw); clear hSw; go_simp; try with_reducible rfl)
            try simp only [Act.put, List.setIfInBounds_toArray, List.set_cons_zero, List.set_cons_succ]
            refine wpAnyH_ready (rs := [57]) (by kernel_rfl) (by simp) (AllReadyH.cons rfl (fun K hK => ?_) AllReadyH.nil)
            go_simp
            refine (HDp.out _ hS49.out).mono ?_
            rintro e wv59 ⟨rfl, hv59⟩
            have hS59 := Lib.hid (hS49.out.trans (hv59.mono hS49.out.size))
            clear hv59
            refine hK.out _ _ hS59 (fun _ => ?_)
            clear hK K
            try simp only [Act.put, List.setIfInBounds_toArray, List.set_cons_zero, List.set_cons_succ]
            refine wpAnyH_take (i := 59) (oi := { dst := some 140, op := Op.binOp BinOp.eql 4 (Operand.tmp 138) (Operand.tmp 139) 4, type := 4, pos := "law.go:143", after := #[{ on := 57, ground := Ground.data }, { on := 58, ground := Ground.data }, { on := 51, ground := Ground.guard }], guard := some (51, true) }) (v := ?_) rfl (by kernel_rfl) (by kernel_rfl) (by kernel_rfl) (fun _ _ _ h => h) (Or.inl ⟨by rfl, ?hy60⟩) hS59 ?_
            case hy60 => (intro V hSw; (try dsimp only at hSw); clear hSw; go_simp; try with_reducible rfl)
            try simp only [Act.put, List.setIfInBounds_toArray, List.set_cons_zero, List.set_cons_succ]
            refine wpAnyH_take (i := 60) (oi := { dst := some 141, op := Op.pick (Operand.tmp 132) (Operand.tmp 140) (Operand.const (Value.bool false)), type := 4, pos := "law.go:143", after := #[{ on := 51, ground := Ground.data }, { on := 59, ground := Ground.data }], guard := none }) (v := ?_) rfl (by kernel_rfl) (by kernel_rfl) (by kernel_rfl) (fun _ _ _ h => h) (Or.inl ⟨by rfl, ?hy61⟩) hS59 ?_
            case hy61 => (intro V hSw; (try dsimp only at hSw); clear hSw; go_simp; try with_reducible rfl)
            try simp only [Act.put, List.setIfInBounds_toArray, List.set_cons_zero, List.set_cons_succ]
            refine wpAnyH_take (i := 61) (oi := { dst := some 142, op := Op.move (Operand.tmp 141), type := 4, pos := "law.go:143", after := #[{ on := 60, ground := Ground.data }, { on := 57, ground := Ground.chain }], guard := none }) (v := ?_) rfl (by kernel_rfl) (by kernel_rfl) (by kernel_rfl) (fun _ _ _ h => h) (Or.inl ⟨by rfl, ?hy62⟩) hS59 ?_
            case hy62 => (intro V hSw; (try dsimp only at hSw); clear hSw; go_simp; try with_reducible rfl)
            try simp only [Act.put, List.setIfInBounds_toArray, List.set_cons_zero, List.set_cons_succ]
            refine wpAnyH_take (i := 62) (oi := { dst := some 143, op := Op.move (Operand.tmp 13), type := 4, pos := "law.go:143", after := #[{ on := 61, ground := Ground.guard }], guard := some (61, true) }) (v := ?_) rfl (by kernel_rfl) (by kernel_rfl) (by kernel_rfl) (fun _ _ _ h => h) (Or.inl ⟨by rfl, ?hy63⟩) hS59 ?_
            case hy63 => (intro V hSw; (try dsimp only at hSw); clear hSw; go_simp; try with_reducible rfl)
            try simp only [Act.put, List.setIfInBounds_toArray, List.set_cons_zero, List.set_cons_succ]
            refine wpAnyH_take (i := 63) (oi := { dst := some 144, op := Op.move (Operand.tmp 10), type := 3, pos := "law.go:143", after := #[{ on := 61, ground := Ground.guard }], guard := some (61, true) }) (v := ?_) rfl (by kernel_rfl) (by kernel_rfl) (by kernel_rfl) (fun _ _ _ h => h) (Or.inl ⟨by rfl, ?hy64⟩) hS59 ?_
            case hy64 => (intro V hSw; (try dsimp only at hSw); clear hSw; go_simp; try with_reducible rfl)
            try simp only [Act.put, List.setIfInBounds_toArray, List.set_cons_zero, List.set_cons_succ]
            refine wpAnyH_take (i := 64) (oi := { dst := some 145, op := Op.binOp BinOp.geq 3 (Operand.tmp 144) (Operand.const (Value.int IntKind.i64 0)) 3, type := 4, pos := "law.go:143", after := #[{ on := 63, ground := Ground.data }, { on := 61, ground := Ground.guard }], guard := some (61, true) }) (v := ?_) rfl (by kernel_rfl) (by kernel_rfl) (by kernel_rfl) (fun _ _ _ h => h) (Or.inl ⟨by rfl, ?hy65⟩) hS59 ?_
            case hy65 => (intro V hSw; (try dsimp only at hSw); clear hSw; go_simp; try with_reducible rfl)
            try simp only [Act.put, List.setIfInBounds_toArray, List.set_cons_zero, List.set_cons_succ]
            refine wpAnyH_take (i := 65) (oi := { dst := some 146, op := Op.binOp BinOp.eql 4 (Operand.tmp 143) (Operand.tmp 145) 4, type := 4, pos := "law.go:143", after := #[{ on := 62, ground := Ground.data }, { on := 64, ground := Ground.data }, { on := 61, ground := Ground.guard }], guard := some (61, true) }) (v := ?_) rfl (by kernel_rfl) (by kernel_rfl) (by kernel_rfl) (fun _ _ _ h => h) (Or.inl ⟨by rfl, ?hy66⟩) hS59 ?_
            case hy66 => (intro V hSw; (try dsimp only at hSw); clear hSw; go_simp; try with_reducible rfl)
            try simp only [Act.put, List.setIfInBounds_toArray, List.set_cons_zero, List.set_cons_succ]
            refine wpAnyH_take (i := 66) (oi := { dst := some 147, op := Op.pick (Operand.tmp 142) (Operand.tmp 146) (Operand.const (Value.bool false)), type := 4, pos := "law.go:143", after := #[{ on := 61, ground := Ground.data }, { on := 65, ground := Ground.data }], guard := none }) (v := ?_) rfl (by kernel_rfl) (by kernel_rfl) (by kernel_rfl) (fun _ _ _ h => h) (Or.inl ⟨by rfl, ?hy67⟩) hS59 ?_
            case hy67 => (intro V hSw; (try dsimp only at hSw); clear hSw; go_simp; try with_reducible rfl)
            try simp only [Act.put, List.setIfInBounds_toArray, List.set_cons_zero, List.set_cons_succ]
            refine wpAnyH_take (i := 67) (oi := { dst := some 148, op := Op.move (Operand.tmp 147), type := 4, pos := "law.go:143", after := #[{ on := 66, ground := Ground.data }, { on := 61, ground := Ground.chain }], guard := none }) (v := ?_) rfl (by kernel_rfl) (by kernel_rfl) (by kernel_rfl) (fun _ _ _ h => h) (Or.inl ⟨by rfl, ?hy68⟩) hS59 ?_
            case hy68 => (intro V hSw; (try dsimp only at hSw); clear hSw; go_simp; try with_reducible rfl)
            try simp only [Act.put, List.setIfInBounds_toArray, List.set_cons_zero, List.set_cons_succ]
            refine wpAnyH_take (i := 68) (oi := { dst := some 149, op := Op.move (Operand.tmp 12), type := 3, pos := "law.go:143", after := #[{ on := 67, ground := Ground.guard }], guard := some (67, true) }) (v := ?_) rfl (by kernel_rfl) (by kernel_rfl) (by kernel_rfl) (fun _ _ _ h => h) (Or.inl ⟨by rfl, ?hy69⟩) hS59 ?_
            case hy69 => (intro V hSw; (try dsimp only at hSw); clear hSw; go_simp; try with_reducible rfl)
            try simp only [Act.put, List.setIfInBounds_toArray, List.set_cons_zero, List.set_cons_succ]
            refine wpAnyH_take (i := 69) (oi := { dst := some 150, op := Op.move (Operand.tmp 10), type := 3, pos := "law.go:143", after := #[{ on := 67, ground := Ground.guard }], guard := some (67, true) }) (v := ?_) rfl (by kernel_rfl) (by kernel_rfl) (by kernel_rfl) (fun _ _ _ h => h) (Or.inl ⟨by rfl, ?hy70⟩) hS59 ?_
            case hy70 => (intro V hSw; (try dsimp only at hSw); clear hSw; go_simp; try with_reducible rfl)
            try simp only [Act.put, List.setIfInBounds_toArray, List.set_cons_zero, List.set_cons_succ]
            refine wpAnyH_ready (rs := [70]) (by kernel_rfl) (by simp) (AllReadyH.cons rfl (fun K hK => ?_) AllReadyH.nil)
            go_simp
            refine hK.out _ _ hS59 (fun _ => ?_)
            clear hK K
            try simp only [Act.put, List.setIfInBounds_toArray, List.set_cons_zero, List.set_cons_succ]
            refine wpAnyH_take (i := 71) (oi := { dst := some 152, op := Op.binOp BinOp.eql 3 (Operand.tmp 149) (Operand.tmp 151) 3, type := 4, pos := "law.go:143", after := #[{ on := 68, ground := Ground.data }, { on := 70, ground := Ground.data }, { on := 67, ground := Ground.guard }], guard := some (67, true) }) (v := ?_) rfl (by kernel_rfl) (by kernel_rfl) (by kernel_rfl) (fun _ _ _ h => h) (Or.inl ⟨by rfl, ?hy71⟩) hS59 ?_
            case hy71 => (intro V hSw; (try dsimp only at hSw); clear hSw; go_simp; try with_reducible rfl)
            try simp only [Act.put, List.setIfInBounds_toArray, List.set_cons_zero, List.set_cons_succ]
            refine wpAnyH_take (i := 72) (oi := { dst := some 153, op := Op.pick (Operand.tmp 148) (Operand.tmp 152) (Operand.const (Value.bool false)), type := 4, pos := "law.go:143", after := #[{ on := 67, ground := Ground.data }, { on := 71, ground := Ground.data }], guard := none }) (v := ?_) rfl (by kernel_rfl) (by kernel_rfl) (by kernel_rfl) (fun _ _ _ h => h) (Or.inl ⟨by rfl, ?hy72⟩) hS59 ?_
            case hy72 => (intro V hSw; (try dsimp only at hSw); clear hSw; go_simp; try with_reducible rfl)
            try simp only [Act.put, List.setIfInBounds_toArray, List.set_cons_zero, List.set_cons_succ]
            refine wpAnyH_take (i := 73) (oi := { dst := some 154, op := Op.move (Operand.tmp 153), type := 4, pos := "law.go:143", after := #[{ on := 72, ground := Ground.data }, { on := 67, ground := Ground.chain }], guard := none }) (v := ?_) rfl (by kernel_rfl) (by kernel_rfl) (by kernel_rfl) (fun _ _ _ h => h) (Or.inl ⟨by rfl, ?hy73⟩) hS59 ?_
            case hy73 => (intro V hSw; (try dsimp only at hSw); clear hSw; go_simp; try with_reducible rfl)
            try simp only [Act.put, List.setIfInBounds_toArray, List.set_cons_zero, List.set_cons_succ]
            refine wpAnyH_ready (rs := [74]) (by kernel_rfl) (by simp) (AllReadyH.cons rfl (fun K hK => ?_) AllReadyH.nil)
            go_simp
            refine (awake15_any _).mono ?_
            rintro e wv74 ⟨rfl, hv74⟩
            have hS74 := Lib.hid (hS59.out.trans (hv74.mono hS59.out.size))
            clear hv74
            refine hK.out _ _ hS74 (fun _ => ?_)
            clear hK K
            try simp only [Act.put, List.setIfInBounds_toArray, List.set_cons_zero, List.set_cons_succ]
            refine wpAnyH_take (i := 75) (oi := { dst := some 156, op := Op.pick (Operand.tmp 154) (Operand.tmp 155) (Operand.const (Value.bool false)), type := 4, pos := "law.go:143", after := #[{ on := 73, ground := Ground.data }, { on := 74, ground := Ground.data }], guard := none }) (v := ?_) rfl (by kernel_rfl) (by kernel_rfl) (by kernel_rfl) (fun _ _ _ h => h) (Or.inl ⟨by rfl, ?hy75⟩) hS74 ?_
            case hy75 => (intro V hSw; (try dsimp only at hSw); clear hSw; go_simp; try with_reducible rfl)
            try simp only [Act.put, List.setIfInBounds_toArray, List.set_cons_zero, List.set_cons_succ]
            refine wpAnyH_ready (rs := [76]) (by kernel_rfl) (by simp) (AllReadyH.cons rfl (fun K hK => ?_) AllReadyH.nil)
            go_simp
            refine hK.out _ _ hS74 (fun _ => ?_)
            clear hK K
            try simp only [Act.put, List.setIfInBounds_toArray, List.set_cons_zero, List.set_cons_succ]
            refine wpAnyH_done (by kernel_rfl) ?_ _
            go_wp2_with fail
            go_ret
            exact ⟨rfl, Hb6.out.trans (hS74.out.mono Hb6.out.size)⟩
end Go.Proofs.Ytjefpogeknbelaa.Tithe
