/- pick.Press: walked. -/
import Derived.Test.YtcmndnglmpkpdaaDoorPickNext
namespace Go.Proofs.YtcmndnglmpkpdaaDoor.Tithe
open Go.RowKit Go.Sort Go.Shelf
set_option linter.unusedVariables false
set_option linter.unusedSimpArgs false
set_option maxRecDepth 100000
/-- is there a table in one of the next j levels behind n? -/
def deepN (l : Nat → List Mr) (n : Nat) : Nat → Bool
  | 0 => decide (n = 0)
  | j + 1 => deepN l n j || decide (0 < (l (n + 1 + j)).length)
def pressAt (l : Nat → List Mr) (n : Nat) : Option Nat := if deepN l n (3 - n) = true then some n else none
/-- the level that is pressed -/
def pressN (l : Nat → List Mr) : Option Nat := if 0 < (l 0).length then pressAt l 0 else if 0 < (l 1).length then pressAt l 1 else if 0 < (l 2).length then pressAt l 2 else none
theorem pressN_at {l : Nat → List Mr} {n : Nat} (hn : n < 3) (h : 0 < (l n).length) (hlo : ∀ k, k < n → (l k).length = 0) : pressN l = pressAt l n := by
  unfold pressN
  match n, hn with
  | 0, _ => rw [if_pos h]
  | 1, _ => rw [if_neg (by rw [hlo 0 (by omega)]; decide), if_pos h]
  | 2, _ => rw [if_neg (by rw [hlo 0 (by omega)]; decide), if_neg (by rw [hlo 1 (by omega)]; decide), if_pos h]
theorem pressN_no {l : Nat → List Mr} (hlo : ∀ k, k < 3 → (l k).length = 0) : pressN l = none := by
  unfold pressN
  rw [if_neg (by rw [hlo 0 (by omega)]; decide), if_neg (by rw [hlo 1 (by omega)]; decide), if_neg (by rw [hlo 2 (by omega)]; decide)]
attribute [local go_sem] Oper.semAt_some
set_option maxHeartbeats 3200000 in
theorem press_any (U : Vn) (w : World) (hU : IsVn w U) (hl : (tabs U.l 4).length ≤ 100000) (hrl : ∀ p ∈ tabs U.l 4, p.2.1.refs.length ≤ 1000000) :
    Calls Tryd.prog 13 #[.agg U.cells] w fun e w' => Hid (NextOut w U.l (pressN U.l) e w') := by
  obtain ⟨va0, vn0, vc0, va1, vn1, vc1, va2, vn2, vc2, va3, vn3, vc3, hc⟩ := isVn_agg' hU
  have HAl : Hid (Below w.heap.size w ((w.alloc (.cells #[.slice va0 vn0 vc0, .slice va1 vn1 vc1, .slice va2 vn2 vc2, .slice va3 vn3 vc3] 26)).alloc (.cells #[.int .i64 0, .int .i64 0, .slice none 0 0, .slice none 0 0, .string ⟨#[]⟩] 34))) := Lib.hid (((Below.refl _ _).alloc (Nat.le_refl _) _).alloc (by simp) _)
  have HV : Hid (((w.alloc (.cells #[.slice va0 vn0 vc0, .slice va1 vn1 vc1, .slice va2 vn2 vc2, .slice va3 vn3 vc3] 26)).alloc (.cells #[.int .i64 0, .int .i64 0, .slice none 0 0, .slice none 0 0, .string ⟨#[]⟩] 34)).heap[w.heap.size]? = some (.cells #[.slice va0 vn0 vc0, .slice va1 vn1 vc1, .slice va2 vn2 vc2, .slice va3 vn3 vc3] 26 (0, 0))) := Lib.hid (blk_old (blk_of_alloc _ _) _)
  have HR : Hid (((w.alloc (.cells #[.slice va0 vn0 vc0, .slice va1 vn1 vc1, .slice va2 vn2 vc2, .slice va3 vn3 vc3] 26)).alloc (.cells #[.int .i64 0, .int .i64 0, .slice none 0 0, .slice none 0 0, .string ⟨#[]⟩] 34)).heap[w.heap.size + 1]? = some (.cells #[.int .i64 0, .int .i64 0, .slice none 0 0, .slice none 0 0, .string ⟨#[]⟩] 34 (0, 0))) := Lib.hid (blk_new (by simp only [World.size_alloc]) _)
  have HPl := Lib.hid (fun (n : Nat) (A : World) (hA : IsVn A U) (hn : n < 3) (hlen : 0 < (U.l n).length) => plan_any U n A hA hn hlen hl hrl)
  have HU := Lib.hid (hU.below HAl.out)
  have Hc := Lib.hid hc
  rw [hc] at HPl ⊢
  clear hU hc hl hrl
  go_enter Tryd.func13, Tryd.ntmps13
  go_upto_region 1 with fail
  generalize (w.alloc (.cells #[.slice va0 vn0 vc0, .slice va1 vn1 vc1, .slice va2 vn2 vc2, .slice va3 vn3 vc3] 26)).alloc (.cells #[.int .i64 0, .int .i64 0, .slice none 0 0, .slice none 0 0, .string ⟨#[]⟩] 34) = W1 at *
  have Hcell : Hid (∀ k, k < 4 → ∃ sa sc, W1.cell? ⟨w.heap.size, k, none⟩ = some (.slice sa (U.l k).length sc)) := Lib.hid (fun k hk => by
    obtain ⟨sa, sc, hsv⟩ := isMr_slice (HU.out k hk)
    exact ⟨sa, sc, (cell_of_blk HV.out k).trans (by rw [← Hc.out, vn_cell U hk, hsv])⟩)
  go_wp2_with fail
  go_loop [8] (fun nv => ∃ n : Nat, n ≤ 3 ∧ nv = .int .i64 n ∧ ∀ k, k < n → (U.l k).length = 0) (fun nv => 3 - (intOf nv).toNat)
  case atStart => exact ⟨0, Nat.zero_le _, rfl, fun k hk => absurd hk (Nat.not_lt_zero _)⟩
  case round =>
    obtain ⟨n, hn, rfl, hlo⟩ := hrel
    have Hlo := Lib.hid hlo
    clear hlo
    by_cases hn3 : n < 3
    · have hni : (n : Int) < 3 := by omega
      have hni4 : (n : Int) < 4 := by omega
      obtain ⟨sa, sc, hcn⟩ := Hcell.out n (by omega)
      obtain ⟨K, hK⟩ : ∃ K, K = (U.l n).length := ⟨_, rfl⟩
      rw [← hK] at hcn
      have HK := Lib.hid hK
      clear hK
      by_cases hk0 : K = 0
      · have Hno : Hid (∀ k, k < n + 1 → (U.l k).length = 0) := Lib.hid (fun k hk => by
          by_cases e : k = n
          · subst e; rw [← HK.out, hk0]
          · exact Hlo.out k (by omega))
        rw [hk0] at hcn
        clear hk0 HK
        go_wp2_with fail
        go_round
        case rel => exact ⟨n + 1, by omega, by go_num, Hno.out⟩
        case measure => simp [intOf]; omega
      · have HP := Lib.hid (HPl.out n W1 HU.out hn3 (by rw [← HK.out]; omega))
        have Hat := Lib.hid (pressN_at hn3 (by rw [← HK.out]; omega) Hlo.out)
        obtain ⟨d0, hd0⟩ : ∃ d0, d0 = decide (n = 0) := ⟨_, rfl⟩
        have hd0' : ((n : Int) == 0) = d0 := by
          rw [hd0]
          by_cases e : n = 0
          · subst e; rfl
          · rw [decide_eq_false e]; simp; omega
        have Hd0 := Lib.hid hd0
        clear hd0
        go_upto_region 6 with fail
        clear hcn hd0'
        have hn13 : (n : Int) + 1 ≤ 4 := by omega
        have hn10 : (0 : Int) ≤ (n : Int) + 1 := by omega
        have hwr : IntKind.i64.wrap ((n : Int) + 1) = (n : Int) + 1 := IntWalk.i64_in _ (by omega)
        have htn : ((n : Int) + 1).toNat = n + 1 := by omega
        go_upto_region 7 with fail
        obtain ⟨R, hR⟩ : ∃ R, R = 3 - n := ⟨_, rfl⟩
        rw [← hR]
        have hRn : n + R = 3 := by omega
        have HR3 := Lib.hid hR
        clear hR hwr htn hn13 hn10
        go_loop [5, 24] (fun dv jv => ∃ j : Nat, j ≤ R ∧ jv = .int .i64 j ∧ dv = .bool (deepN U.l n j)) (fun _ jv => R - (intOf jv).toNat)
        case atStart => exact ⟨0, Nat.zero_le _, rfl, by rw [Hd0.out]; rfl⟩
        case round =>
          obtain ⟨j, hj, rfl, rfl⟩ := hrel
          by_cases hjR : j < R
          · obtain ⟨ta, tc, hcj⟩ := Hcell.out (n + 1 + j) (by omega)
            obtain ⟨K2, hK2⟩ : ∃ K2, K2 = (U.l (n + 1 + j)).length := ⟨_, rfl⟩
            have Hs : Hid (deepN U.l n (j + 1) = (deepN U.l n j || decide (0 < K2))) := Lib.hid (by rw [hK2]; rfl)
            rw [← hK2] at hcj
            clear hK2
            cases hD : deepN U.l n j with
            | true =>
              rw [hD] at Hs
              clear hD
              go_wp2_with fail
              go_round
              case rel => exact ⟨j + 1, by omega, by go_num, by rw [Hs.out]; rfl⟩
              case measure => simp [intOf]; omega
            | false =>
              rw [hD] at Hs
              clear hD
              by_cases hk2 : 0 < K2
              · have e1 : decide ((K2 : Int) > 0) = true := decide_eq_true (by omega)
                have e2 : decide (0 < (K2 : Int)) = true := decide_eq_true (by omega)
                go_wp2_with fail
                go_round
                case rel => exact ⟨j + 1, by omega, by go_num, by rw [Hs.out, decide_eq_true hk2]; rfl⟩
                case measure => simp [intOf]; omega
              · have e1 : decide ((K2 : Int) > 0) = false := decide_eq_false (by omega)
                have e2 : decide (0 < (K2 : Int)) = false := decide_eq_false (by omega)
                go_wp2_with fail
                go_round
                case rel => exact ⟨j + 1, by omega, by go_num, by rw [Hs.out, decide_eq_false hk2]; rfl⟩
                case measure => simp [intOf]; omega
          · obtain rfl : j = R := by omega
            cases hD : deepN U.l n j with
            | true =>
              have Hpr : Hid (pressN U.l = some n) := Lib.hid (by rw [Hat.out]; unfold pressAt; rw [← HR3.out, hD, if_pos rfl])
              have c0 := (cell_of_blk HV.out 0).trans (show _ = some (.slice va0 vn0 vc0) from rfl)
              have c1 := (cell_of_blk HV.out 1).trans (show _ = some (.slice va1 vn1 vc1) from rfl)
              have c2 := (cell_of_blk HV.out 2).trans (show _ = some (.slice va2 vn2 vc2) from rfl)
              have c3 := (cell_of_blk HV.out 3).trans (show _ = some (.slice va3 vn3 vc3) from rfl)
              clear hD
              go_wp2_with fail
              refine HP.out.mono ?_
              rintro e w2 q
              obtain ⟨cs, rfl, hpl, hb2⟩ := q.out
              obtain ⟨p, hp⟩ : ∃ p, p = planP U.l n := ⟨_, rfl⟩
              rw [← hp] at hpl
              have Hp := Lib.hid hp
              have Hpl := Lib.hid hpl
              obtain ⟨ua, un, uc, la, ln, lc, e, -, -⟩ := hpl
              subst e
              have HR2 := Lib.hid (blk_bels hb2 HR.out)
              have hrb : w.heap.size + 1 < W1.heap.size := blk_lt HR.out
              have HF := Lib.hid (put_plan (rb := w.heap.size + 1) HR2.out Hpl.out (HAl.out.trans (hb2.mono HAl.out.size)) (by omega) hrb (by omega))
              have t0 := (cell_of_blk HR2.out 0).trans (show _ = some (.int .i64 0) from rfl)
              have t1 := (cell_of_blk HR2.out 1).trans (show _ = some (.int .i64 0) from rfl)
              have t2 := (cell_of_blk HR2.out 2).trans (show _ = some (.slice none 0 0) from rfl)
              have t3 := (cell_of_blk HR2.out 3).trans (show _ = some (.slice none 0 0) from rfl)
              have t4 := (cell_of_blk HR2.out 4).trans (show _ = some (.string ⟨#[]⟩) from rfl)
              have tz := fun j => frozen_of_blk HR2.out j
              clear q hp hb2 c0 c1 c2 c3
              go_wp2_with fail
              refine bodyPost_ret (results_row_slot Tryd.results13 _ _ (w.heap.size + 1) 34 _ (0, 0) _ _ rfl rfl HF.out.1 Tryd.underlying34 rfl planInfo) rfl ?_
              exact Lib.hid ⟨_, _, rfl, by rw [Hpr.out]; exact ⟨rfl, by rw [← Hp.out]; exact HF.out.2.1⟩, HF.out.2.2⟩
            | false =>
              have Hpr : Hid (pressN U.l = none) := Lib.hid (by rw [Hat.out]; unfold pressAt; rw [← HR3.out, hD, if_neg (by decide)])
              have HF := Lib.hid (put_zero (rb := w.heap.size + 1) HR.out HAl.out (by omega))
              have t0 := (cell_of_blk HR.out 0).trans (show _ = some (.int .i64 0) from rfl)
              have t1 := (cell_of_blk HR.out 1).trans (show _ = some (.int .i64 0) from rfl)
              have t2 := (cell_of_blk HR.out 2).trans (show _ = some (.slice none 0 0) from rfl)
              have t3 := (cell_of_blk HR.out 3).trans (show _ = some (.slice none 0 0) from rfl)
              have t4 := (cell_of_blk HR.out 4).trans (show _ = some (.string ⟨#[]⟩) from rfl)
              have tz := fun j => frozen_of_blk HR.out j
              clear hD
              go_wp2_with fail
              refine bodyPost_ret (results_row_slot Tryd.results13 _ _ (w.heap.size + 1) 34 _ (0, 0) _ _ rfl rfl HF.out.1 Tryd.underlying34 rfl planInfo) rfl ?_
              exact Lib.hid ⟨_, _, rfl, by rw [Hpr.out]; exact ⟨rfl, planIs_zero _ _⟩, HF.out.2⟩
    · obtain rfl : n = 3 := by omega
      have Hfull := Lib.hid (pressN_no Hlo.out)
      have HF := Lib.hid (put_zero (rb := w.heap.size + 1) HR.out HAl.out (by omega))
      have t0 := (cell_of_blk HR.out 0).trans (show _ = some (.int .i64 0) from rfl)
      have t1 := (cell_of_blk HR.out 1).trans (show _ = some (.int .i64 0) from rfl)
      have t2 := (cell_of_blk HR.out 2).trans (show _ = some (.slice none 0 0) from rfl)
      have t3 := (cell_of_blk HR.out 3).trans (show _ = some (.slice none 0 0) from rfl)
      have t4 := (cell_of_blk HR.out 4).trans (show _ = some (.string ⟨#[]⟩) from rfl)
      have tz := fun j => frozen_of_blk HR.out j
      go_wp2_with fail
      refine bodyPost_ret (results_row_slot Tryd.results13 _ _ (w.heap.size + 1) 34 _ (0, 0) _ _ rfl rfl HF.out.1 Tryd.underlying34 rfl planInfo) rfl ?_
      exact Lib.hid ⟨_, _, rfl, by rw [Hfull.out]; exact ⟨rfl, planIs_zero _ _⟩, HF.out.2⟩
end Go.Proofs.YtcmndnglmpkpdaaDoor.Tithe
