/- Meta.Covers, Version.Deeper, Version.Live: walked. -/
import Derived.Test.YtkjfjcigmmooiaaLevHas
namespace Go.Proofs.Ytkjfjcigmmooiaa.Tithe
open Go.RowKit Go.Sort Go.Shelf
set_option linter.unusedVariables false
set_option maxRecDepth 100000
theorem leq_cmpB (a b : ByteArray) : (Op.bytesLess a.toList b.toList || a.toList == b.toList) = decide (cmpB a b ≤ 0) := by
  rw [less_cmpB, beq_cmpB]
  have := cmpB_range a b
  by_cases h : cmpB a b < 0
  · simp [h, Int.le_of_lt h]
  · by_cases h2 : cmpB a b = 0
    · simp [h2]
    · have h3 : ¬ cmpB a b ≤ 0 := by omega
      simp [h, h2, h3]
/-- does a meta cover a user's key? -/
def coverB (a b : Ky) (u : ByteArray) : Bool := decide (cmpB a.u u ≤ 0) && decide (cmpB u b.u ≤ 0)
set_option maxHeartbeats 800000 in
theorem covers_any (z n : Int) (a b : Ky) (vr : Value) (u : ByteArray) (w : World) (ra : Option Addr) (rn rc : Nat) (hv : vr = .slice ra rn rc) :
    Calls Try.prog 40 #[.agg #[.int .i64 z, .int .i64 n, .string a.u, .int .i64 a.s, .int .i64 a.k, .string b.u, .int .i64 b.s, .int .i64 b.k, vr], .string u] w fun e w' => e = .returned (.bool (coverB a b u)) ∧ Below w.heap.size w w' := by
  subst hv
  have L1 := Lib.hid (leq_cmpB a.u u)
  have L2 := Lib.hid (leq_cmpB u b.u)
  go_enter Try.func40, Try.ntmps40
  go_wp2
  all_goals
    go_ret
    refine ⟨congrArg (fun q => Ending.returned (.bool q)) ?_, (Below.refl _ _).alloc (Nat.le_refl _) _⟩
    unfold coverB
    rw [← L1.out, ← L2.out]
    try first
      | (have h1 : (Op.bytesLess a.u.toList u.toList || a.u.toList == u.toList) = true := by assumption
         simp only [h1, Bool.true_and])
      | (have h1 : (Op.bytesLess a.u.toList u.toList || a.u.toList == u.toList) = false := by assumption
         simp only [h1, Bool.false_and])
      | simp_all
/-! ### Deeper -/
def deepB (ts : List (Nat × Mr)) (lv : Int) (u : ByteArray) : Bool := ts.any fun p => decide (lv < (p.1 : Int)) && coverB p.2.1.a p.2.1.b u
def DeepI (w : World) (V : Vn) (lv : Int) (u : ByteArray) (k : Nat) (W : World) : Prop :=
  W.heap[w.heap.size]? = some (.cells V.cells 58 (0, 0)) ∧ W.heap[w.heap.size + 1]? = some (.cells #[.int .i64 lv] 3 (0, 0)) ∧ W.heap[w.heap.size + 1 + 1]? = some (.cells #[.string u] 9 (0, 0)) ∧ W.heap[w.heap.size + 1 + 1 + 1]? = some (.cells #[.bool false] 4 (0, 0)) ∧
  W.heap[w.heap.size + 1 + 1 + 1 + 1]? = some (.cells #[.pointer (some ⟨w.heap.size, 0, none⟩)] 127 (0, 0)) ∧ Below w.heap.size w W ∧ ∀ j q, j < k → (tabs V.l 4)[j]? = some q → (decide (lv < (q.1 : Int)) && coverB q.2.1.a q.2.1.b u) = false
theorem deepI_own {w : World} {V : Vn} {lv : Int} {u : ByteArray} {B : Nat} (hB : w.heap.size ≤ B) : OwnFrom B (DeepI w V lv u) :=
  st_and (st_blk _ _ _ _) (st_and (st_blk _ _ _ _) (st_and (st_blk _ _ _ _) (st_and (st_blk _ _ _ _) (st_and (st_blk _ _ _ _) (st_and (st_below (Nat.le_refl _) hB) (st_pure _))))))
def DeepX (w : World) (V : Vn) (lv : Int) (u : ByteArray) (c : Code) (k : Nat) (W : World) : Prop :=
  c = .ret ∧ deepB (tabs V.l 4) lv u = true ∧ W.heap[w.heap.size + 1 + 1 + 1]? = some (.cells #[.bool true] 4 (0, 0)) ∧ Below w.heap.size w W
theorem deepX_own {w : World} {V : Vn} {lv : Int} {u : ByteArray} {B : Nat} (hB : w.heap.size ≤ B) (c : Code) : OwnFrom B (DeepX w V lv u c) :=
  st_and (st_pure _) (st_and (st_pure _) (st_and (st_blk _ _ _ _) (st_below (Nat.le_refl _) hB)))
attribute [local go_sem] Oper.semAt_some
set_option maxHeartbeats 1600000 in
theorem deeper_any (V : Vn) (lv : Int) (u : ByteArray) (w : World) (h : IsVn w V) :
    Calls Try.prog 19 #[.agg V.cells, .int .i64 lv, .string u] w fun e w' => e = .returned (.bool (deepB (tabs V.l 4) lv u)) ∧ Below w.heap.size w w' := by
  have H := Lib.hid h
  clear h
  unfold Vn.cells
  refine calls_of_marks Try.func19 rfl ?_
  simp only [Try.ntmps19, List.size_toArray, List.length_cons, List.length_nil, Nat.reduceAdd, Nat.reduceSub, Array.replicate_succ, Array.replicate_zero, List.push_toArray, List.append_toArray, List.nil_append, List.cons_append]
  go_wp2_with fail
  refine (all_any _ _).mono ?_
  rintro e w' ⟨rfl, rfl⟩
  go_wp2_with fail
  generalize hW : ((((w.alloc (.cells #[V.v 0, V.v 1, V.v 2, V.v 3] 58)).alloc (.cells #[.int .i64 lv] 3)).alloc (.cells #[.string u] 9)).alloc (.cells #[.bool false] 4)).alloc (.cells #[.pointer (some ⟨w.heap.size, 0, none⟩)] 127) = W
  have hWs : W.heap.size = w.heap.size + 1 + 1 + 1 + 1 + 1 := by rw [← hW]; simp only [World.size_alloc]
  have hI : DeepI w V lv u 0 W := by
    rw [← hW]
    exact ⟨blk_old (blk_old (blk_old (blk_old (blk_new rfl _) _) _) _) _, blk_old (blk_old (blk_old (blk_new (by simp only [World.size_alloc]) _) _) _) _, blk_old (blk_old (blk_new (by simp only [World.size_alloc]) _) _) _, blk_old (blk_new (by simp only [World.size_alloc]) _) _, blk_new (by simp only [World.size_alloc]) _,
      (((((Below.refl _ _).alloc (Nat.le_refl _) _).alloc (by simp) _).alloc (by simp; omega) _).alloc (by simp; omega) _).alloc (by simp; omega) _, fun j q hj => absurd hj (Nat.not_lt_zero _)⟩
  clear hW
  have HWs := Lib.hid hWs
  clear hWs
  refine range_lawS (gf := 66) (lb := #[.pointer (some ⟨w.heap.size + 1 + 1 + 1 + 1, 0, none⟩)]) rfl (enters_of Try.func66 (by kernel_rfl) rfl)
    (all_iter (w.heap.size + 1 + 1 + 1 + 1) w.heap.size V w H.out) (tabEnc_size V.l) (DeepI w V lv u) (DeepX w V lv u) (fun k X hX => ⟨hX.2.2.2.2.1, hX.1, hX.2.2.2.2.2.1⟩) (deepI_own (by rw [HWs.out]; omega)) (deepX_own (by rw [HWs.out]; omega)) hI ?round ?done ?stop
  case round =>
    rintro yl k X hk hXs ⟨h0, h1, h2, h3, h4, h5, h6⟩
    obtain ⟨p, hp⟩ : ∃ p, (tabs V.l 4)[k]? = some p := ⟨_, List.getElem?_eq_getElem hk⟩
    rw [tabEnc_at V.l hp]
    have hrr := tabs_rr H.out hp
    have hlt := tabs_lt hp
    obtain ⟨n, ⟨⟨mz, mn, a, b, refs⟩, vr⟩⟩ := p
    obtain ⟨ra, rc, hrv, -, -, -⟩ := hrr
    dsimp only at hrv hlt
    subst hrv
    have Hp := Lib.hid hp
    have H0 := Lib.hid h0
    have H1 := Lib.hid h1
    have H2 := Lib.hid h2
    have H3 := Lib.hid h3
    have H4 := Lib.hid h4
    have H5 := Lib.hid h5
    have H6 := Lib.hid h6
    clear hp h0 h1 h2 h3 h4 h5 h6
    generalize refs.length = rn at *
    unfold mrC
    gi_wp2
    refine ⟨keeps_of ((Below.refl _ _).alloc (Nat.le_refl _) _), ?_⟩
    intro Y hY
    have hI2 : DeepI w V lv u k Y := st_turn (deepI_own (by rw [HWs.out]; omega)) hY ⟨blk_old H0.out _, blk_old H1.out _, blk_old H2.out _, blk_old H3.out _, blk_old H4.out _, H5.out.alloc H5.out.size _, H6.out⟩
    have hm := blk_turn hY (blk_new rfl (.cells #[.int .i64 mz, .int .i64 mn, .string a.u, .int .i64 a.s, .int .i64 a.k, .string b.u, .int .i64 b.s, .int .i64 b.k, .slice ra rn rc] 47))
    have m0 : Y.cell? ⟨X.heap.size, 0, none⟩ = some (.int .i64 mz) := (cell_of_blk hm 0).trans rfl
    have m1 : Y.cell? ⟨X.heap.size, 1, none⟩ = some (.int .i64 mn) := (cell_of_blk hm 1).trans rfl
    have m2 : Y.cell? ⟨X.heap.size, 2, none⟩ = some (.string a.u) := (cell_of_blk hm 2).trans rfl
    have m3 : Y.cell? ⟨X.heap.size, 3, none⟩ = some (.int .i64 a.s) := (cell_of_blk hm 3).trans rfl
    have m4 : Y.cell? ⟨X.heap.size, 4, none⟩ = some (.int .i64 a.k) := (cell_of_blk hm 4).trans rfl
    have m5 : Y.cell? ⟨X.heap.size, 5, none⟩ = some (.string b.u) := (cell_of_blk hm 5).trans rfl
    have m6 : Y.cell? ⟨X.heap.size, 6, none⟩ = some (.int .i64 b.s) := (cell_of_blk hm 6).trans rfl
    have m7 : Y.cell? ⟨X.heap.size, 7, none⟩ = some (.int .i64 b.k) := (cell_of_blk hm 7).trans rfl
    have m8 : Y.cell? ⟨X.heap.size, 8, none⟩ = some (.slice ra rn rc) := (cell_of_blk hm 8).trans rfl
    have hcov := callsIn_wide (n := 0).2 (covers_any mz mn a b (.slice ra rn rc) u Y ra rn rc rfl)
    obtain ⟨h0, h1, h2, h3, h4, h5, h6⟩ := hI2
    have c1 : Y.cell? ⟨w.heap.size + 1, 0, none⟩ = some (.int .i64 lv) := (cell_of_blk h1 0).trans rfl
    have c2 : Y.cell? ⟨w.heap.size + 1 + 1, 0, none⟩ = some (.string u) := (cell_of_blk h2 0).trans rfl
    clear H0 H1 H2 H3 H4 H5 H6
    have H0 := Lib.hid h0
    have H1 := Lib.hid h1
    have H2 := Lib.hid h2
    have H3 := Lib.hid h3
    have H4 := Lib.hid h4
    have H5 := Lib.hid h5
    have H6 := Lib.hid h6
    have Hcov := Lib.hid hcov
    clear h0 h1 h2 h3 h4 h5 h6 hm hY hcov
    have next : ∀ (Z : World), Below Y.heap.size Y Z → (decide (lv < (n : Int)) && coverB a b u) = false → KeepsFrom W.heap.size Y Z ∧ DeepI w V lv u (k + 1) Z := by
      intro Z hZ hf
      refine ⟨keeps_of hZ, blk_bels hZ H0.out, blk_bels hZ H1.out, blk_bels hZ H2.out, blk_bels hZ H3.out, blk_bels hZ H4.out, H5.out.trans (hZ.mono H5.out.size), fun j q hj hq => ?_⟩
      rcases Nat.lt_succ_iff_lt_or_eq.1 hj with hj | rfl
      · exact H6.out j q hj hq
      · rw [Hp.out] at hq
        injection hq with hq
        subst hq
        exact hf
    have Hnext := Lib.hid next
    clear next
    by_cases hz : lv < (n : Int)
    · cases hc : coverB a b u with
      | false =>
        rw [hc] at Hcov Hnext
        gi_wp2_with fail
        refine ⟨trivial, rfl, ?_⟩
        refine Hcov.out.mono ?_
        rintro e Z ⟨rfl, hZ⟩
        have HN := Lib.hid (Hnext.out Z hZ (by simp))
        clear hZ Hnext
        gi_wp2
        exact HN.out
      | true =>
        have hd : deepB (tabs V.l 4) lv u = true := by
          unfold deepB
          rw [List.any_eq_true]
          exact ⟨_, List.mem_of_getElem? Hp.out, by simp [hz, hc]⟩
        rw [hc] at Hcov Hnext
        have Hd := Lib.hid hd
        clear hd
        gi_wp2_with fail
        refine ⟨trivial, rfl, ?_⟩
        refine Hcov.out.mono ?_
        rintro e Z ⟨rfl, hZ⟩
        have h3 := blk_bels hZ H3.out
        have c3 : Z.cell? ⟨w.heap.size + 1 + 1 + 1, 0, none⟩ = some (.bool false) := (cell_of_blk h3 0).trans rfl
        have z3 := frozen_of_blk h3 0
        have HB := Lib.hid (H5.out.trans (hZ.mono H5.out.size))
        have HZ := Lib.hid hZ
        have HH3 := Lib.hid h3
        clear hZ Hnext h3
        gi_wp2
        exact ⟨(keeps_of HZ.out).trans ((KeepsOthers.setCell _ _ _).from _), rfl, Hd.out, (blk_set HH3.out).trans rfl, HB.out.setCell (by simp; omega) _⟩
    · have HN := Lib.hid (Hnext.out Y (Below.refl _ _) (by simp [hz]))
      have hd : decide (lv < (n : Int)) = false := by simp [hz]
      clear Hnext
      gi_wp2_with fail
      refine ⟨trivial, ?_⟩
      gi_wp2
      exact HN.out
  case done =>
    rintro D X hD hXs ⟨h0, h1, h2, h3, h4, h5, h6⟩ hK
    have hDw : w.heap.size + 1 + 1 + 1 + 1 + 1 ≤ D := by have := HWs.out; omega
    have hT : deepB (tabs V.l 4) lv u = false := by
      unfold deepB
      rw [List.any_eq_false]
      intro q hq
      obtain ⟨j, hj⟩ := List.getElem?_of_mem hq
      rw [h6 j q (List.getElem?_eq_some_iff.1 hj).1 hj]; simp
    have c3 : X.cell? ⟨w.heap.size + 1 + 1 + 1, 0, none⟩ = some (.bool false) := (cell_of_blk h3 0).trans rfl
    have z3 := frozen_of_blk h3 0
    have k3 : (X.setCell ⟨w.heap.size + 1 + 1 + 1, 0, none⟩ (.bool false)).heap[w.heap.size + 1 + 1 + 1]? = some (.cells #[.bool false] 4 (0, 0)) := (blk_set h3).trans rfl
    have kD : (X.setCell ⟨w.heap.size + 1 + 1 + 1, 0, none⟩ (.bool false)).heap[D]? = some (.deferred (some [])) := (Below.heap_setCell _ _ _ _ (by simp; omega)).trans hK
    have hb2 : Below w.heap.size w (X.setCell ⟨w.heap.size + 1 + 1 + 1, 0, none⟩ (.bool false)) := h5.setCell (by simp; omega) _
    have K3 := Lib.hid k3
    have KD := Lib.hid kD
    have Hb2 := Lib.hid hb2
    have HT := Lib.hid hT
    clear h0 h1 h2 h3 h4 h5 h6 hK hT k3 kD hb2
    go_wp2
    have e3 : ((X.setCell ⟨w.heap.size + 1 + 1 + 1, 0, none⟩ (.bool false)).putObj D (.deferred none)).cell? ⟨w.heap.size + 1 + 1 + 1, 0, none⟩ = some (.bool false) := (cell_of_blk (blk_put K3.out (.deferred none) (by omega)) 0).trans rfl
    refine leave_mark KD.out (v := .bool false) ?_ ⟨?_, ?_⟩
    · simp [results, Try.results19, go_sem, e3]
    · rw [HT.out]
    · exact below_put Hb2.out _ (by omega) Hb2.out.size
  case stop =>
    rintro D c k X hD hXs hk ⟨rfl, hT, h3, h5⟩ hK
    go_wp2
    have hn3 : w.heap.size + 1 + 1 + 1 ≠ D := by have := HWs.out; omega
    have e3 : (X.putObj D (.deferred none)).cell? ⟨w.heap.size + 1 + 1 + 1, 0, none⟩ = some (.bool true) := (cell_of_blk (blk_put h3 (.deferred none) hn3) 0).trans rfl
    refine leave_mark hK (v := .bool true) ?_ ⟨?_, ?_⟩
    · simp [results, Try.results19, go_sem, e3]
    · rw [hT]
    · exact below_put h5 _ (by rw [HWs.out] at hD; omega) h5.size
end Go.Proofs.Ytkjfjcigmmooiaa.Tithe
