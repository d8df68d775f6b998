/- pick.Most, pick.Next: walked. -/
import Derived.Test.YtcmndnglmpkpdaaDoorPickPlan
namespace Go.Proofs.YtcmndnglmpkpdaaDoor.Tithe
open Go.RowKit Go.Sort Go.Shelf
set_option linter.unusedVariables false
set_option linter.unusedSimpArgs false
set_option maxRecDepth 100000
/-- the package's table -/
def TabOk (w : World) : Prop := w.cell? ⟨0, 0, none⟩ = some (.int .i64 2) ∧ w.cell? ⟨0, 1, none⟩ = some (.int .i64 4) ∧ w.cell? ⟨0, 2, none⟩ = some (.int .i64 8)
theorem TabOk.below {w w' : World} (h : TabOk w) (hb : Below w.heap.size w w') : TabOk w' :=
  ⟨(hb.cell (block_lt_of_cell h.1)).trans h.1, (hb.cell (block_lt_of_cell h.2.1)).trans h.2.1, (hb.cell (block_lt_of_cell h.2.2)).trans h.2.2⟩
def capP (n : Nat) : Nat := if n = 0 then 2 else if n = 1 then 4 else 8
def mostP (x : Int) : Int := if x < 0 ∨ 3 ≤ x then -1 else capP x.toNat
theorem most_any (x : Int) (w : World) (ht : TabOk w) : Calls Tryd.prog 10 #[.int .i64 x] w fun e w' => e = .returned (.int .i64 (mostP x)) ∧ w = w' := by
  obtain ⟨h0, h1, h2⟩ := ht
  by_cases hn : x < 0
  · have HP : Hid (mostP x = -1) := Lib.hid (by unfold mostP; rw [if_pos (.inl hn)])
    go_enter Tryd.func10, Tryd.ntmps10
    go_wp2
    go_ret
    exact ⟨by rw [HP.out]; rfl, rfl⟩
  · by_cases h3 : 3 ≤ x
    · have HP : Hid (mostP x = -1) := Lib.hid (by unfold mostP; rw [if_pos (.inr h3)])
      go_enter Tryd.func10, Tryd.ntmps10
      go_wp2
      go_ret
      exact ⟨by rw [HP.out]; rfl, rfl⟩
    · have hx : x = 0 ∨ x = 1 ∨ x = 2 := by omega
      rcases hx with rfl | rfl | rfl
      all_goals
        go_enter Tryd.func10, Tryd.ntmps10
        go_wp2
        go_ret
        exact ⟨rfl, rfl⟩
theorem index_caps {n : Nat} (h : n < 3) (W : World) : (Instr.index 78 (.agg #[.int .i64 2, .int .i64 4, .int .i64 8]) (.int .i64 n)).run Tryd.prog W = .ok (.int .i64 (capP n)) W := by
  match n, h with
  | 0, _ => rfl
  | 1, _ => rfl
  | 2, _ => rfl
def Pn.zero : Pn := ⟨0, 0, [], [], ⟨#[]⟩⟩
theorem planIs_zero (W : World) (base : Nat) : PlanIs W base #[.int .i64 0, .int .i64 0, .slice none 0 0, .slice none 0 0, .string ⟨#[]⟩] Pn.zero := ⟨none, 0, 0, none, 0, 0, rfl, ⟨isSl_nil _ _ _ _ _ (by unfold maxLen; omega), fun ad e => (by cases e), World.ownsRow_nil _ _ _ _⟩, isSl_nil _ _ _ _ _ (by unfold maxLen; omega), fun ad e => by cases e⟩
/-- the first level that is too full -/
def fullN (l : Nat → List Mr) : Option Nat := if capP 0 < (l 0).length then some 0 else if capP 1 < (l 1).length then some 1 else if capP 2 < (l 2).length then some 2 else none
theorem fullN_at {l : Nat → List Mr} {n : Nat} (hn : n < 3) (h : capP n < (l n).length) (hlo : ∀ k, k < n → ¬ capP k < (l k).length) : fullN l = some n := by
  unfold fullN
  match n, hn with
  | 0, _ => rw [if_pos h]
  | 1, _ => rw [if_neg (hlo 0 (by omega)), if_pos h]
  | 2, _ => rw [if_neg (hlo 0 (by omega)), if_neg (hlo 1 (by omega)), if_pos h]
theorem fullN_no {l : Nat → List Mr} (hlo : ∀ k, k < 3 → ¬ capP k < (l k).length) : fullN l = none := by
  unfold fullN
  rw [if_neg (hlo 0 (by omega)), if_neg (hlo 1 (by omega)), if_neg (hlo 2 (by omega))]
/-- a plan, or none -/
def OptPlan (W : World) (base : Nat) (l : Nat → List Mr) (o : Option Nat) (cs : Array Value) (b : Bool) : Prop := match o with
  | some n => b = true ∧ PlanIs W base cs (planP l n)
  | none => b = false ∧ PlanIs W base cs Pn.zero
theorem OptPlan.below {W W' : World} {base : Nat} {l : Nat → List Mr} {o : Option Nat} {cs : Array Value} {b : Bool} (h : OptPlan W base l o cs b) (hb : Below W.heap.size W W') : OptPlan W' base l o cs b := by
  cases o with
  | none => exact ⟨h.1, h.2.below hb⟩
  | some n => exact ⟨h.1, h.2.below hb⟩
def NextOut (w : World) (l : Nat → List Mr) (o : Option Nat) (e : Ending) (w' : World) : Prop := ∃ cs b, e = .returned (.tuple #[.agg cs, .bool b]) ∧ OptPlan w' w.heap.size l o cs b ∧ Below w.heap.size w w'
/-- the plan stored in the result's block -/
theorem put_plan {w W : World} {base rb : Nat} {p : Pn} {ua la : Option Addr} {un uc ln lc : Nat} (hr : W.heap[rb]? = some (.cells #[.int .i64 0, .int .i64 0, .slice none 0 0, .slice none 0 0, .string ⟨#[]⟩] 34 (0, 0))) (h : PlanIs W base #[.int .i64 p.frm, .int .i64 p.dest, .slice ua un uc, .slice la ln lc, .string p.upto] p) (hb : Below w.heap.size w W) (hw : w.heap.size ≤ rb) (hrb : rb < base) (hbase : w.heap.size ≤ base) :
    ((((((W.setCell ⟨rb, 0, none⟩ (.int .i64 p.frm)).setCell ⟨rb, 1, none⟩ (.int .i64 p.dest)).setCell ⟨rb, 2, none⟩ (.slice ua un uc)).setCell ⟨rb, 3, none⟩ (.slice la ln lc)).setCell ⟨rb, 4, none⟩ (.string p.upto))).heap[rb]? = some (.cells #[.int .i64 p.frm, .int .i64 p.dest, .slice ua un uc, .slice la ln lc, .string p.upto] 34 (0, 0)) ∧ PlanIs ((((((W.setCell ⟨rb, 0, none⟩ (.int .i64 p.frm)).setCell ⟨rb, 1, none⟩ (.int .i64 p.dest)).setCell ⟨rb, 2, none⟩ (.slice ua un uc)).setCell ⟨rb, 3, none⟩ (.slice la ln lc)).setCell ⟨rb, 4, none⟩ (.string p.upto))) w.heap.size #[.int .i64 p.frm, .int .i64 p.dest, .slice ua un uc, .slice la ln lc, .string p.upto] p ∧ Below w.heap.size w ((((((W.setCell ⟨rb, 0, none⟩ (.int .i64 p.frm)).setCell ⟨rb, 1, none⟩ (.int .i64 p.dest)).setCell ⟨rb, 2, none⟩ (.slice ua un uc)).setCell ⟨rb, 3, none⟩ (.slice la ln lc)).setCell ⟨rb, 4, none⟩ (.string p.upto))) :=
  ⟨(blk_set (blk_set (blk_set (blk_set (blk_set hr))))).trans rfl, (((((h.set hrb).set hrb).set hrb).set hrb).set hrb).mono hbase, ((((hb.setCell (p := ⟨rb, 0, none⟩) hw _).setCell (p := ⟨rb, 1, none⟩) hw _).setCell (p := ⟨rb, 2, none⟩) hw _).setCell (p := ⟨rb, 3, none⟩) hw _).setCell (p := ⟨rb, 4, none⟩) hw _⟩
theorem put_zero {w W : World} {rb : Nat} (hr : W.heap[rb]? = some (.cells #[.int .i64 0, .int .i64 0, .slice none 0 0, .slice none 0 0, .string ⟨#[]⟩] 34 (0, 0))) (hb : Below w.heap.size w W) (hw : w.heap.size ≤ rb) :
    ((((((W.setCell ⟨rb, 0, none⟩ (.int .i64 0)).setCell ⟨rb, 1, none⟩ (.int .i64 0)).setCell ⟨rb, 2, none⟩ (.slice none 0 0)).setCell ⟨rb, 3, none⟩ (.slice none 0 0)).setCell ⟨rb, 4, none⟩ (.string ⟨#[]⟩))).heap[rb]? = some (.cells #[.int .i64 0, .int .i64 0, .slice none 0 0, .slice none 0 0, .string ⟨#[]⟩] 34 (0, 0)) ∧ Below w.heap.size w ((((((W.setCell ⟨rb, 0, none⟩ (.int .i64 0)).setCell ⟨rb, 1, none⟩ (.int .i64 0)).setCell ⟨rb, 2, none⟩ (.slice none 0 0)).setCell ⟨rb, 3, none⟩ (.slice none 0 0)).setCell ⟨rb, 4, none⟩ (.string ⟨#[]⟩))) :=
  ⟨(blk_set (blk_set (blk_set (blk_set (blk_set hr))))).trans rfl, ((((hb.setCell (p := ⟨rb, 0, none⟩) hw _).setCell (p := ⟨rb, 1, none⟩) hw _).setCell (p := ⟨rb, 2, none⟩) hw _).setCell (p := ⟨rb, 3, none⟩) hw _).setCell (p := ⟨rb, 4, none⟩) hw _⟩
attribute [local go_sem] Oper.semAt_some
set_option maxHeartbeats 3200000 in
theorem next_any (U : Vn) (w : World) (hU : IsVn w U) (hl : (tabs U.l 4).length ≤ 100000) (hrl : ∀ p ∈ tabs U.l 4, p.2.1.refs.length ≤ 1000000) (ht : TabOk w) :
    Calls Tryd.prog 11 #[.agg U.cells] w fun e w' => Hid (NextOut w U.l (fullN U.l) e w') := by
  obtain ⟨va0, vn0, vc0, va1, vn1, vc1, va2, vn2, vc2, va3, vn3, vc3, hc⟩ := isVn_agg' hU
  have HAl : Hid (Below w.heap.size w ((w.alloc (.cells #[.slice va0 vn0 vc0, .slice va1 vn1 vc1, .slice va2 vn2 vc2, .slice va3 vn3 vc3] 26)).alloc (.cells #[.int .i64 0, .int .i64 0, .slice none 0 0, .slice none 0 0, .string ⟨#[]⟩] 34))) := Lib.hid (((Below.refl _ _).alloc (Nat.le_refl _) _).alloc (by simp) _)
  have HV : Hid (((w.alloc (.cells #[.slice va0 vn0 vc0, .slice va1 vn1 vc1, .slice va2 vn2 vc2, .slice va3 vn3 vc3] 26)).alloc (.cells #[.int .i64 0, .int .i64 0, .slice none 0 0, .slice none 0 0, .string ⟨#[]⟩] 34)).heap[w.heap.size]? = some (.cells #[.slice va0 vn0 vc0, .slice va1 vn1 vc1, .slice va2 vn2 vc2, .slice va3 vn3 vc3] 26 (0, 0))) := Lib.hid (blk_old (blk_of_alloc _ _) _)
  have HR : Hid (((w.alloc (.cells #[.slice va0 vn0 vc0, .slice va1 vn1 vc1, .slice va2 vn2 vc2, .slice va3 vn3 vc3] 26)).alloc (.cells #[.int .i64 0, .int .i64 0, .slice none 0 0, .slice none 0 0, .string ⟨#[]⟩] 34)).heap[w.heap.size + 1]? = some (.cells #[.int .i64 0, .int .i64 0, .slice none 0 0, .slice none 0 0, .string ⟨#[]⟩] 34 (0, 0))) := Lib.hid (blk_new (by simp only [World.size_alloc]) _)
  have HPl := Lib.hid (fun (n : Nat) (A : World) (hA : IsVn A U) (hn : n < 3) (hlen : 0 < (U.l n).length) => plan_any U n A hA hn hlen hl hrl)
  have HU := Lib.hid (hU.below HAl.out)
  obtain ⟨t0, t1, t2⟩ := ht.below HAl.out
  have Hc := Lib.hid hc
  rw [hc] at HPl ⊢
  clear hU hc hl hrl ht
  go_enter Tryd.func11, Tryd.ntmps11
  go_upto_region 1 with fail
  generalize (w.alloc (.cells #[.slice va0 vn0 vc0, .slice va1 vn1 vc1, .slice va2 vn2 vc2, .slice va3 vn3 vc3] 26)).alloc (.cells #[.int .i64 0, .int .i64 0, .slice none 0 0, .slice none 0 0, .string ⟨#[]⟩] 34) = W1 at *
  go_wp2_with fail
  clear t0 t1 t2
  go_loop [7] (fun nv => ∃ n : Nat, n ≤ 3 ∧ nv = .int .i64 n ∧ ∀ k, k < n → ¬ capP k < (U.l k).length) (fun nv => 3 - (intOf nv).toNat)
  case atStart => exact ⟨0, Nat.zero_le _, rfl, fun k hk => absurd hk (Nat.not_lt_zero _)⟩
  case round =>
    obtain ⟨n, hn, rfl, hlo⟩ := hrel
    have Hlo := Lib.hid hlo
    clear hlo
    by_cases hn3 : n < 3
    · have hni : (n : Int) < 3 := by omega
      have hni4 : (n : Int) < 4 := by omega
      have hix := fun W => index_caps hn3 W
      obtain ⟨sa, sc, hsv⟩ := isMr_slice (HU.out n (by omega))
      have hcn : W1.cell? ⟨w.heap.size, n, none⟩ = some (.slice sa (U.l n).length sc) := (cell_of_blk HV.out n).trans (by rw [← Hc.out, vn_cell U (by omega), hsv])
      obtain ⟨K, hK⟩ : ∃ K, K = (U.l n).length := ⟨_, rfl⟩
      rw [← hK] at hcn
      have HK := Lib.hid hK
      by_cases hbig : capP n < K
      · have Hfull := Lib.hid (fullN_at hn3 (by rw [← HK.out]; exact hbig) Hlo.out)
        have HP := Lib.hid (HPl.out n W1 HU.out hn3 (by rw [← HK.out]; omega))
        have hd1 : decide ((K : Int) > (capP n : Int)) = true := decide_eq_true (by omega)
        have hd2 : decide ((capP n : Int) < (K : Int)) = true := decide_eq_true (by omega)
        have hd3 : decide (capP n < K) = true := decide_eq_true (by omega)
        have c0 := (cell_of_blk HV.out 0).trans (show _ = some (.slice va0 vn0 vc0) from rfl)
        have c1 := (cell_of_blk HV.out 1).trans (show _ = some (.slice va1 vn1 vc1) from rfl)
        have c2 := (cell_of_blk HV.out 2).trans (show _ = some (.slice va2 vn2 vc2) from rfl)
        have c3 := (cell_of_blk HV.out 3).trans (show _ = some (.slice va3 vn3 vc3) from rfl)
        clear hK hsv
        go_wp2_with fail
        refine HP.out.mono ?_
        rintro e w2 q
        obtain ⟨cs, rfl, hpl, hb2⟩ := q.out
        obtain ⟨p, hp⟩ : ∃ p, p = planP U.l n := ⟨_, rfl⟩
        rw [← hp] at hpl
        have Hp := Lib.hid hp
        have Hpl := Lib.hid hpl
        obtain ⟨ua, un, uc, la, ln, lc, e, -, -⟩ := hpl
        subst e
        have HR2 := Lib.hid (blk_bels hb2 HR.out)
        have hrb : w.heap.size + 1 < W1.heap.size := blk_lt HR.out
        have HF := Lib.hid (put_plan (rb := w.heap.size + 1) HR2.out Hpl.out (HAl.out.trans (hb2.mono HAl.out.size)) (by omega) hrb (by omega))
        have t0 := (cell_of_blk HR2.out 0).trans (show _ = some (.int .i64 0) from rfl)
        have t1 := (cell_of_blk HR2.out 1).trans (show _ = some (.int .i64 0) from rfl)
        have t2 := (cell_of_blk HR2.out 2).trans (show _ = some (.slice none 0 0) from rfl)
        have t3 := (cell_of_blk HR2.out 3).trans (show _ = some (.slice none 0 0) from rfl)
        have t4 := (cell_of_blk HR2.out 4).trans (show _ = some (.string ⟨#[]⟩) from rfl)
        have tz := fun j => frozen_of_blk HR2.out j
        clear q hp hb2 c0 c1 c2 c3
        go_wp2_with fail
        refine bodyPost_ret (results_row_slot Tryd.results11 _ _ (w.heap.size + 1) 34 _ (0, 0) _ _ rfl rfl HF.out.1 Tryd.underlying34 rfl planInfo) rfl ?_
        exact Lib.hid ⟨_, _, rfl, by rw [Hfull.out]; exact ⟨rfl, by rw [← Hp.out]; exact HF.out.2.1⟩, HF.out.2.2⟩
      · have Hno : Hid (∀ k, k < n + 1 → ¬ capP k < (U.l k).length) := Lib.hid (fun k hk => by
          by_cases e : k = n
          · subst e; rw [← HK.out]; exact hbig
          · exact Hlo.out k (by omega))
        have hd1 : decide ((K : Int) > (capP n : Int)) = false := decide_eq_false (by omega)
        have hd2 : decide ((capP n : Int) < (K : Int)) = false := decide_eq_false (by omega)
        have hd3 : decide (capP n < K) = false := decide_eq_false (by omega)
        clear hK hsv
        go_wp2_with fail
        go_round
        case rel => exact ⟨n + 1, by omega, by go_num, Hno.out⟩
        case measure => simp [intOf]; omega
    · obtain rfl : n = 3 := by omega
      have Hfull := Lib.hid (fullN_no Hlo.out)
      have HF := Lib.hid (put_zero (rb := w.heap.size + 1) HR.out HAl.out (by omega))
      have t0 := (cell_of_blk HR.out 0).trans (show _ = some (.int .i64 0) from rfl)
      have t1 := (cell_of_blk HR.out 1).trans (show _ = some (.int .i64 0) from rfl)
      have t2 := (cell_of_blk HR.out 2).trans (show _ = some (.slice none 0 0) from rfl)
      have t3 := (cell_of_blk HR.out 3).trans (show _ = some (.slice none 0 0) from rfl)
      have t4 := (cell_of_blk HR.out 4).trans (show _ = some (.string ⟨#[]⟩) from rfl)
      have tz := fun j => frozen_of_blk HR.out j
      go_wp2_with fail
      refine bodyPost_ret (results_row_slot Tryd.results11 _ _ (w.heap.size + 1) 34 _ (0, 0) _ _ rfl rfl HF.out.1 Tryd.underlying34 rfl planInfo) rfl ?_
      exact Lib.hid ⟨_, _, rfl, by rw [Hfull.out]; exact ⟨rfl, planIs_zero _ _⟩, HF.out.2⟩
end Go.Proofs.YtcmndnglmpkpdaaDoor.Tithe
