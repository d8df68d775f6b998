/- Version.Has, Deeper, Live: walked. -/
import Derived.Test.YthjjelomlgmllaaLevMem
namespace Go.Proofs.Ythjjelomlgmllaa.Tithe
open Go.RowKit Go.Sort Go.Shelf
set_option linter.unusedVariables false
set_option maxRecDepth 100000
theorem blk_put {V : World} {b D : Nat} {x : Obj} (h : V.heap[b]? = some x) (o : Obj) (hne : b ≠ D) : (V.putObj D o).heap[b]? = some x := (World.putObj_heap_other hne).trans h
theorem below_put {w V : World} {D B : Nat} (hb : Below B w V) (o : Obj) (hD : B ≤ D) (hs : B ≤ V.heap.size) : Below B w (V.putObj D o) := hb.trans (grown_below (grownBy_putObj V D o) hD hs)
theorem keeps_of {B : Nat} {X Y : World} (h : Below X.heap.size X Y) : KeepsFrom B X Y := (keeps_below' h).from B
/-- the first table of a zone: its level -/
def hasT (ts : List (Nat × Mr)) (z : Int) : Option Nat := (ts.find? fun p => decide (p.2.1.z = z)).map (·.1)
def hasN (ts : List (Nat × Mr)) (z : Int) : Int := match hasT ts z with | some n => (n : Int) | none => 0
def hasB (ts : List (Nat × Mr)) (z : Int) : Bool := (hasT ts z).isSome
theorem hasT_at {ts : List (Nat × Mr)} {z : Int} {k : Nat} {p : Nat × Mr} (h : ∀ j q, j < k → ts[j]? = some q → q.2.1.z ≠ z) (hp : ts[k]? = some p) (hz : p.2.1.z = z) : hasT ts z = some p.1 := by
  unfold hasT
  have hk := (List.getElem?_eq_some_iff.1 hp)
  rw [List.find?_eq_some_iff_getElem.2 ⟨by simpa using hz, k, hk.1, hk.2, fun j hj => by simpa using h j _ hj (List.getElem?_eq_getElem (by have := hk.1; omega))⟩]
  rfl
theorem hasT_none {ts : List (Nat × Mr)} {z : Int} (h : ∀ j q, j < ts.length → ts[j]? = some q → q.2.1.z ≠ z) : hasT ts z = none := by
  unfold hasT
  rw [List.find?_eq_none.2]
  · rfl
  · intro q hq
    obtain ⟨j, hj⟩ := List.getElem?_of_mem hq
    simpa using h j q (List.getElem?_eq_some_iff.1 hj).1 hj
theorem blk_new {W : World} {n : Nat} (h : W.heap.size = n) (o : Obj) : (W.alloc o).heap[n]? = some o := by subst h; exact blk_of_alloc W o
def HasI (w : World) (V : Vn) (z : Int) (k : Nat) (W : World) : Prop :=
  W.heap[w.heap.size]? = some (.cells V.cells 61 (0, 0)) ∧ W.heap[w.heap.size + 1]? = some (.cells #[.int .i64 z] 3 (0, 0)) ∧ W.heap[w.heap.size + 1 + 1]? = some (.cells #[.int .i64 0] 3 (0, 0)) ∧ W.heap[w.heap.size + 1 + 1 + 1]? = some (.cells #[.bool false] 4 (0, 0)) ∧
  W.heap[w.heap.size + 1 + 1 + 1 + 1]? = some (.cells #[.pointer (some ⟨w.heap.size, 0, none⟩)] 140 (0, 0)) ∧ Below w.heap.size w W ∧ ∀ j q, j < k → (tabs V.l 4)[j]? = some q → q.2.1.z ≠ z
theorem hasI_own {w : World} {V : Vn} {z : Int} {B : Nat} (hB : w.heap.size ≤ B) : OwnFrom B (HasI w V z) :=
  st_and (st_blk _ _ _ _) (st_and (st_blk _ _ _ _) (st_and (st_blk _ _ _ _) (st_and (st_blk _ _ _ _) (st_and (st_blk _ _ _ _) (st_and (st_below (Nat.le_refl _) hB) (st_pure _))))))
def HasX (w : World) (V : Vn) (z : Int) (c : Code) (k : Nat) (W : World) : Prop :=
  c = .ret ∧ ∃ p, (tabs V.l 4)[k]? = some p ∧ hasT (tabs V.l 4) z = some p.1 ∧ W.heap[w.heap.size + 1 + 1]? = some (.cells #[.int .i64 (p.1 : Nat)] 3 (0, 0)) ∧ W.heap[w.heap.size + 1 + 1 + 1]? = some (.cells #[.bool true] 4 (0, 0)) ∧ Below w.heap.size w W
theorem hasX_own {w : World} {V : Vn} {z : Int} {B : Nat} (hB : w.heap.size ≤ B) (c : Code) : OwnFrom B (HasX w V z c) :=
  st_and (st_pure _) (st_ex fun p => st_and (st_pure _) (st_and (st_pure _) (st_and (st_blk _ _ _ _) (st_and (st_blk _ _ _ _) (st_below (Nat.le_refl _) hB)))))
attribute [local go_sem] Oper.semAt_some
set_option maxHeartbeats 1600000 in
theorem has_any (V : Vn) (z : Int) (w : World) (h : IsVn w V) :
    Calls Try.prog 50 #[.agg V.cells, .int .i64 z] w fun e w' => e = .returned (.tuple #[.int .i64 (hasN (tabs V.l 4) z), .bool (hasB (tabs V.l 4) z)]) ∧ Below w.heap.size w w' := by
  have H := Lib.hid h
  clear h
  unfold Vn.cells
  refine calls_of_marks Try.func50 rfl ?_
  simp only [Try.ntmps50, List.size_toArray, List.length_cons, List.length_nil, Nat.reduceAdd, Nat.reduceSub, Array.replicate_succ, Array.replicate_zero, List.push_toArray, List.append_toArray, List.nil_append, List.cons_append]
  go_wp2_with fail
  refine (all_any _ _).mono ?_
  rintro e w' ⟨rfl, rfl⟩
  go_wp2_with fail
  generalize hW : ((((w.alloc (.cells #[V.v 0, V.v 1, V.v 2, V.v 3] 61)).alloc (.cells #[.int .i64 z] 3)).alloc (.cells #[.int .i64 0] 3)).alloc (.cells #[.bool false] 4)).alloc (.cells #[.pointer (some ⟨w.heap.size, 0, none⟩)] 140) = W
  have hWs : W.heap.size = w.heap.size + 1 + 1 + 1 + 1 + 1 := by rw [← hW]; simp only [World.size_alloc]
  have hI : HasI w V z 0 W := by
    rw [← hW]
    exact ⟨blk_old (blk_old (blk_old (blk_old (blk_new rfl _) _) _) _) _, blk_old (blk_old (blk_old (blk_new (by simp only [World.size_alloc]) _) _) _) _, blk_old (blk_old (blk_new (by simp only [World.size_alloc]) _) _) _, blk_old (blk_new (by simp only [World.size_alloc]) _) _, blk_new (by simp only [World.size_alloc]) _,
      (((((Below.refl _ _).alloc (Nat.le_refl _) _).alloc (by simp) _).alloc (by simp; omega) _).alloc (by simp; omega) _).alloc (by simp; omega) _, fun j q hj => absurd hj (Nat.not_lt_zero _)⟩
  clear hW
  have HWs := Lib.hid hWs
  clear hWs
  refine range_lawS (gf := 83) (lb := #[.pointer (some ⟨w.heap.size + 1 + 1 + 1 + 1, 0, none⟩)]) rfl (enters_of Try.func83 (by kernel_rfl) rfl)
    (all_iter (w.heap.size + 1 + 1 + 1 + 1) w.heap.size V w H.out) (tabEnc_size V.l) (HasI w V z) (HasX w V z) (fun k X hX => ⟨hX.2.2.2.2.1, hX.1, hX.2.2.2.2.2.1⟩) (hasI_own (by rw [HWs.out]; omega)) (hasX_own (by rw [HWs.out]; omega)) hI ?round ?done ?stop
  case round =>
    rintro yl k X hk hXs ⟨h0, h1, h2, h3, h4, h5, h6⟩
    obtain ⟨p, hp⟩ : ∃ p, (tabs V.l 4)[k]? = some p := ⟨_, List.getElem?_eq_getElem hk⟩
    rw [tabEnc_at V.l hp]
    have hrr := tabs_rr H.out hp
    have hlt := tabs_lt hp
    obtain ⟨n, ⟨⟨mz, mn, ⟨au, asq, ak⟩, ⟨bu, bsq, bk⟩, refs⟩, vr⟩⟩ := p
    obtain ⟨ra, rc, hrv, -, -, -⟩ := hrr
    dsimp only at hrv hlt
    subst hrv
    have Hp := Lib.hid hp
    have H0 := Lib.hid h0
    have H1 := Lib.hid h1
    have H2 := Lib.hid h2
    have H3 := Lib.hid h3
    have H4 := Lib.hid h4
    have H5 := Lib.hid h5
    have H6 := Lib.hid h6
    clear hp h0 h1 h2 h3 h4 h5 h6
    generalize refs.length = rn at *
    unfold mrC
    gi_wp2
    refine ⟨keeps_of ((Below.refl _ _).alloc (Nat.le_refl _) _), ?_⟩
    intro Y hY
    have hI2 : HasI w V z k Y := st_turn (hasI_own (by rw [HWs.out]; omega)) hY ⟨blk_old H0.out _, blk_old H1.out _, blk_old H2.out _, blk_old H3.out _, blk_old H4.out _, H5.out.alloc H5.out.size _, H6.out⟩
    have hm := blk_turn hY (blk_new rfl (.cells #[.int .i64 mz, .int .i64 mn, .string au, .int .i64 asq, .int .i64 ak, .string bu, .int .i64 bsq, .int .i64 bk, .slice ra rn rc] 78))
    have m0 : Y.cell? ⟨X.heap.size, 0, none⟩ = some (.int .i64 mz) := (cell_of_blk hm 0).trans rfl
    obtain ⟨h0, h1, h2, h3, h4, h5, h6⟩ := hI2
    have c1 : Y.cell? ⟨w.heap.size + 1, 0, none⟩ = some (.int .i64 z) := (cell_of_blk h1 0).trans rfl
    have c2 : Y.cell? ⟨w.heap.size + 1 + 1, 0, none⟩ = some (.int .i64 0) := (cell_of_blk h2 0).trans rfl
    have c3 : Y.cell? ⟨w.heap.size + 1 + 1 + 1, 0, none⟩ = some (.bool false) := (cell_of_blk h3 0).trans rfl
    have z2 := frozen_of_blk h2 0
    have z3 := frozen_of_blk h3 0
    clear H0 H1 H2 H3 H4 H5 H6
    have H0 := Lib.hid h0
    have H1 := Lib.hid h1
    have H2 := Lib.hid h2
    have H3 := Lib.hid h3
    have H4 := Lib.hid h4
    have H5 := Lib.hid h5
    have H6 := Lib.hid h6
    clear h0 h1 h2 h3 h4 h5 h6 hm hY
    by_cases hz : mz = z
    · subst hz
      gi_wp2
      refine ⟨((KeepsOthers.setCell _ _ _).trans (KeepsOthers.setCell _ _ _)).from _, rfl, _, Hp.out, hasT_at H6.out Hp.out rfl, ?_, ?_, ?_⟩
      · exact (Below.heap_setCell _ _ _ _ (by simp)).trans ((blk_set H2.out).trans rfl)
      · exact (blk_set ((Below.heap_setCell _ _ _ _ (by simp)).trans H3.out)).trans rfl
      · exact (H5.out.setCell (by simp; omega) _).setCell (by simp; omega) _
    · have hz2 : (mz == z) = false := by simpa using hz
      gi_wp2
      refine ⟨KeepsFrom.refl _ _, H0.out, H1.out, H2.out, H3.out, H4.out, H5.out, fun j q hj hq => ?_⟩
      rcases Nat.lt_succ_iff_lt_or_eq.1 hj with hj | rfl
      · exact H6.out j q hj hq
      · rw [Hp.out] at hq
        injection hq with hq
        subst hq
        exact hz
  case done =>
    rintro D X hD hXs ⟨h0, h1, h2, h3, h4, h5, h6⟩ hK
    have hDw : w.heap.size + 1 + 1 + 1 + 1 + 1 ≤ D := by have := HWs.out; omega
    have hT : hasT (tabs V.l 4) z = none := hasT_none h6
    have c2 : X.cell? ⟨w.heap.size + 1 + 1, 0, none⟩ = some (.int .i64 0) := (cell_of_blk h2 0).trans rfl
    have c3 : X.cell? ⟨w.heap.size + 1 + 1 + 1, 0, none⟩ = some (.bool false) := (cell_of_blk h3 0).trans rfl
    have z2 := frozen_of_blk h2 0
    have z3 := frozen_of_blk h3 0
    have k2 : ((X.setCell ⟨w.heap.size + 1 + 1, 0, none⟩ (.int .i64 0)).setCell ⟨w.heap.size + 1 + 1 + 1, 0, none⟩ (.bool false)).heap[w.heap.size + 1 + 1]? = some (.cells #[.int .i64 0] 3 (0, 0)) := (Below.heap_setCell _ _ _ _ (by simp)).trans ((blk_set h2).trans rfl)
    have k3 : ((X.setCell ⟨w.heap.size + 1 + 1, 0, none⟩ (.int .i64 0)).setCell ⟨w.heap.size + 1 + 1 + 1, 0, none⟩ (.bool false)).heap[w.heap.size + 1 + 1 + 1]? = some (.cells #[.bool false] 4 (0, 0)) := (blk_set ((Below.heap_setCell _ _ _ _ (by simp)).trans h3)).trans rfl
    have kD : ((X.setCell ⟨w.heap.size + 1 + 1, 0, none⟩ (.int .i64 0)).setCell ⟨w.heap.size + 1 + 1 + 1, 0, none⟩ (.bool false)).heap[D]? = some (.deferred (some [])) := (Below.heap_setCell _ _ _ _ (by simp; omega)).trans ((Below.heap_setCell _ _ _ _ (by simp; omega)).trans hK)
    have hb2 : Below w.heap.size w ((X.setCell ⟨w.heap.size + 1 + 1, 0, none⟩ (.int .i64 0)).setCell ⟨w.heap.size + 1 + 1 + 1, 0, none⟩ (.bool false)) := (h5.setCell (by simp; omega) _).setCell (by simp; omega) _
    have K2 := Lib.hid k2
    have K3 := Lib.hid k3
    have KD := Lib.hid kD
    have Hb2 := Lib.hid hb2
    have HT := Lib.hid hT
    clear h0 h1 h2 h3 h4 h5 h6 hK hT k2 k3 kD hb2
    go_wp2
    have e2 : ((((X.setCell ⟨w.heap.size + 1 + 1, 0, none⟩ (.int .i64 0)).setCell ⟨w.heap.size + 1 + 1 + 1, 0, none⟩ (.bool false)).putObj D (.deferred none))).cell? ⟨w.heap.size + 1 + 1, 0, none⟩ = some (.int .i64 0) := (cell_of_blk (blk_put K2.out (.deferred none) (by omega)) 0).trans rfl
    have e3 : ((((X.setCell ⟨w.heap.size + 1 + 1, 0, none⟩ (.int .i64 0)).setCell ⟨w.heap.size + 1 + 1 + 1, 0, none⟩ (.bool false)).putObj D (.deferred none))).cell? ⟨w.heap.size + 1 + 1 + 1, 0, none⟩ = some (.bool false) := (cell_of_blk (blk_put K3.out (.deferred none) (by omega)) 0).trans rfl
    refine leave_mark KD.out (v := .tuple #[.int .i64 0, .bool false]) ?_ ⟨?_, ?_⟩
    · simp [results, Try.results50, go_sem, e2, e3]
    · unfold hasN hasB; rw [HT.out]; rfl
    · exact below_put Hb2.out _ (by omega) Hb2.out.size
  case stop =>
    rintro D c k X hD hXs hk ⟨rfl, p, hp, hT, h2, h3, h5⟩ hK
    go_wp2
    have hn2 : w.heap.size + 1 + 1 ≠ D := by have := HWs.out; omega
    have hn3 : w.heap.size + 1 + 1 + 1 ≠ D := by have := HWs.out; omega
    have e2 : (X.putObj D (.deferred none)).cell? ⟨w.heap.size + 1 + 1, 0, none⟩ = some (.int .i64 (p.1 : Nat)) := (cell_of_blk (blk_put h2 (.deferred none) hn2) 0).trans rfl
    have e3 : (X.putObj D (.deferred none)).cell? ⟨w.heap.size + 1 + 1 + 1, 0, none⟩ = some (.bool true) := (cell_of_blk (blk_put h3 (.deferred none) hn3) 0).trans rfl
    refine leave_mark hK (v := .tuple #[.int .i64 (p.1 : Nat), .bool true]) ?_ ⟨?_, ?_⟩
    · simp [results, Try.results50, go_sem, e2, e3]
    · unfold hasN hasB; rw [hT]; rfl
    · exact below_put h5 _ (by rw [HWs.out] at hD; omega) h5.size
end Go.Proofs.Ythjjelomlgmllaa.Tithe
