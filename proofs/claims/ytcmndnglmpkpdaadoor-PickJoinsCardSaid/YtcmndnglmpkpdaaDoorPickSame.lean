/- Chapter 17's ints and same, of like plans: walked. -/
import Derived.Test.YtcmndnglmpkpdaaDoorPickNext
namespace Go.Proofs.YtcmndnglmpkpdaaDoor.Tithe
open Go.RowKit Go.Sort Go.Shelf
set_option linter.unusedVariables false
set_option linter.unusedSimpArgs false
set_option maxRecDepth 100000
attribute [local go_sem] Oper.semAt_some
theorem IsDz.one {w : World} {b off : Nat} {l : List Int} (h : ∀ i x, l[i]? = some x → ∀ j y, (dzC x)[j]? = some y → w.cell? ⟨b, off + i * 1 + j, none⟩ = some y) {i : Nat} {x : Int} (hx : l[i]? = some x) : w.cell? ⟨b, off + i, none⟩ = some (.int .i64 x) := by
  have := h i x hx 0 _ rfl
  rw [Nat.mul_one] at this
  exact this
set_option maxHeartbeats 3200000 in
theorem ints_yes (va vb : Value) (l : List Int) (w : World) (h : IsDz w va l) (h2 : IsDz w vb l) :
    Calls Tryd.prog 26 #[va, vb] w fun e w' => e = .returned (.bool true) ∧ Below w.heap.size w w' := by
  obtain ⟨xa, c, rfl, -, -, -⟩ := id h
  obtain ⟨xb, c', rfl, -, -, -⟩ := id h2
  obtain ⟨-, hc, hm, hx⟩ := h.at
  obtain ⟨-, hc', hm', hx'⟩ := h2.at
  obtain ⟨m, hmE⟩ : ∃ m, m = l.length := ⟨_, rfl⟩
  rw [← hmE] at hc hx hc' hx' ⊢
  have Hx := Lib.hid hx
  have Hx' := Lib.hid hx'
  have Hm := Lib.hid hmE
  clear h h2 hx hx' hmE
  go_enter Tryd.func26, Tryd.ntmps26
  go_wp2_with fail
  go_loopw [13] (fun iv wr => ∃ i : Nat, i ≤ m ∧ iv = .int .i64 i ∧ Below w.heap.size w wr) (fun iv _ => m - (intOf iv).toNat)
  case atStart => exact ⟨0, Nat.zero_le _, rfl, Below.refl _ _⟩
  case round =>
    obtain ⟨wo, rfl⟩ : ∃ wo : World, wo = wr := ⟨_, rfl⟩
    obtain ⟨i, hi, rfl, hb⟩ := hrel
    by_cases him : i < m
    · obtain ⟨b1, off1, rfl, hc1⟩ := Hx.out (by omega)
      obtain ⟨b2, off2, rfl, hc2⟩ := Hx'.out (by omega)
      obtain ⟨r, hr⟩ : ∃ r, l[i]? = some r := ⟨_, List.getElem?_eq_getElem (by rw [← Hm.out]; exact him)⟩
      have d0 := IsDz.one (w := wo) (fun i x hi j y hj => (hb.cell (block_lt_of_cell (hc1 i x hi j y hj))).trans (hc1 i x hi j y hj)) hr
      have k0 := IsDz.one (w := wo) (fun i x hi j y hj => (hb.cell (block_lt_of_cell (hc2 i x hi j y hj))).trans (hc2 i x hi j y hj)) hr
      have Hb := Lib.hid hb
      clear hb hc1 hc2 hr
      go_wp2_with fail
      go_quiet (fail)
      go_wp2
      go_roundw
      case rel => exact ⟨i + 1, by omega, by go_num, below_drewN Hb.out _⟩
      case measure => simp [intOf]; omega
    · obtain rfl : i = m := by omega
      have Hb := Lib.hid hb
      clear hb
      go_wp2
      go_ret
      exact ⟨rfl, Hb.out⟩
set_option maxHeartbeats 3200000 in
theorem same17_yes (cs cs' : Array Value) (b1 b2 : Nat) (p : Pn) (b : Bool) (w : World) (h : PlanIs w b1 cs p) (h2 : PlanIs w b2 cs' p) :
    Calls Tryd.prog 15 #[.agg cs, .bool b, .agg cs', .bool b] w fun e w' => e = .returned (.bool true) ∧ Below w.heap.size w w' := by
  obtain ⟨ua, un, uc, la, ln, lc, rfl, ⟨hu, -⟩, hl, -⟩ := h
  obtain ⟨va, vn, vc, ka, kn, kc, rfl, ⟨hv, -⟩, hk, -⟩ := h2
  obtain ⟨pf, pd, pu, pl, pt⟩ := p
  dsimp only at hu hl hv hk ⊢
  have hB : Below w.heap.size w ((w.alloc (.cells #[.int .i64 pf, .int .i64 pd, .slice ua un uc, .slice la ln lc, .string pt] 34)).alloc (.cells #[.int .i64 pf, .int .i64 pd, .slice va vn vc, .slice ka kn kc, .string pt] 38)) := ((Below.refl _ _).alloc (Nat.le_refl _) _).alloc (by simp) _
  have HP : Hid (((w.alloc (.cells #[.int .i64 pf, .int .i64 pd, .slice ua un uc, .slice la ln lc, .string pt] 34)).alloc (.cells #[.int .i64 pf, .int .i64 pd, .slice va vn vc, .slice ka kn kc, .string pt] 38)).heap[w.heap.size]? = some (.cells #[.int .i64 pf, .int .i64 pd, .slice ua un uc, .slice la ln lc, .string pt] 34 (0, 0))) := Lib.hid (blk_old (blk_of_alloc _ _) _)
  have HQ : Hid (((w.alloc (.cells #[.int .i64 pf, .int .i64 pd, .slice ua un uc, .slice la ln lc, .string pt] 34)).alloc (.cells #[.int .i64 pf, .int .i64 pd, .slice va vn vc, .slice ka kn kc, .string pt] 38)).heap[w.heap.size + 1]? = some (.cells #[.int .i64 pf, .int .i64 pd, .slice va vn vc, .slice ka kn kc, .string pt] 38 (0, 0))) := Lib.hid (blk_new (by simp only [World.size_alloc]) _)
  have HB := Lib.hid hB
  have Hu := Lib.hid (hu.below hB)
  have Hl := Lib.hid (hl.below hB)
  have Hv := Lib.hid (hv.below hB)
  have Hk := Lib.hid (hk.below hB)
  clear hB hu hl hv hk
  have hbb : (b == b) = true := by cases b <;> rfl
  go_enter Tryd.func15, Tryd.ntmps15
  go_upto_region 1 with fail
  generalize (w.alloc (.cells #[.int .i64 pf, .int .i64 pd, .slice ua un uc, .slice la ln lc, .string pt] 34)).alloc (.cells #[.int .i64 pf, .int .i64 pd, .slice va vn vc, .slice ka kn kc, .string pt] 38) = W1 at *
  have e0 := (cell_of_blk HP.out 0).trans (show _ = some (.int .i64 pf) from rfl)
  have e1 := (cell_of_blk HP.out 1).trans (show _ = some (.int .i64 pd) from rfl)
  have e2 := (cell_of_blk HP.out 2).trans (show _ = some (.slice ua un uc) from rfl)
  have f0 := (cell_of_blk HQ.out 0).trans (show _ = some (.int .i64 pf) from rfl)
  have f1 := (cell_of_blk HQ.out 1).trans (show _ = some (.int .i64 pd) from rfl)
  have f2 := (cell_of_blk HQ.out 2).trans (show _ = some (.slice va vn vc) from rfl)
  go_wp2_with fail
  refine (ints_yes _ _ _ _ Hu.out Hv.out).mono ?_
  rintro e w2 ⟨rfl, hb2⟩
  have HP2 := Lib.hid (blk_bels hb2 HP.out)
  have HQ2 := Lib.hid (blk_bels hb2 HQ.out)
  have Hl2 := Lib.hid (Hl.out.below hb2)
  have Hk2 := Lib.hid (Hk.out.below hb2)
  have HB2 := Lib.hid (HB.out.trans (hb2.mono HB.out.size))
  clear hb2 e0 e1 e2 f0 f1 f2
  have e3 := (cell_of_blk HP2.out 3).trans (show _ = some (.slice la ln lc) from rfl)
  have f3 := (cell_of_blk HQ2.out 3).trans (show _ = some (.slice ka kn kc) from rfl)
  go_wp2_with fail
  refine (ints_yes _ _ _ _ Hl2.out Hk2.out).mono ?_
  rintro e w3 ⟨rfl, hb3⟩
  have HB3 := Lib.hid (HB2.out.trans (hb3.mono HB2.out.size))
  have e4 := (cell_of_blk (blk_bels hb3 HP2.out) 4).trans (show _ = some (.string pt) from rfl)
  have f4 := (cell_of_blk (blk_bels hb3 HQ2.out) 4).trans (show _ = some (.string pt) from rfl)
  clear hb3 e3 f3
  go_wp2_with fail
  go_ret
  exact ⟨rfl, HB3.out⟩
end Go.Proofs.YtcmndnglmpkpdaaDoor.Tithe
