/- Version.Live, the law's and the document's: walked. -/
import Derived.Test.YtjefpogeknbelaaRefApply
import Derived.Test.YtjefpogeknbelaaLevCov
import Derived.Test.YtjefpogeknbelaaLevSame
namespace Go.Proofs.Ytjefpogeknbelaa.Tithe
open Go.RowKit Go.Sort Go.Shelf
set_option linter.unusedVariables false
set_option linter.unusedSimpArgs false
set_option maxRecDepth 100000
/-! ### plain -/
def liveR (z : Int) : List (Int × Int) → Int
  | [] => 0
  | r :: t => (if r.1 = z then r.2 else 0) + liveR z t
def liveT (z : Int) : List (Nat × Mr) → Int
  | [] => 0
  | p :: t => liveR z p.2.1.refs + liveT z t
theorem liveR_append (z : Int) : ∀ a b, liveR z (a ++ b) = liveR z a + liveR z b
  | [], b => by simp [liveR]
  | r :: t, b => by simp only [List.cons_append, liveR]; rw [liveR_append z t b]; omega
theorem liveT_append (z : Int) : ∀ a b, liveT z (a ++ b) = liveT z a + liveT z b
  | [], b => by simp [liveT]
  | r :: t, b => by simp only [List.cons_append, liveT]; rw [liveT_append z t b]; omega
theorem liveR_succ {z : Int} {l : List (Int × Int)} {k : Nat} {r : Int × Int} (h : l[k]? = some r) : liveR z (l.take (k + 1)) = liveR z (l.take k) + if r.1 = z then r.2 else 0 := by
  rw [List.take_add_one, h, liveR_append]
  simp [liveR]
theorem liveT_succ {z : Int} {l : List (Nat × Mr)} {k : Nat} {p : Nat × Mr} (h : l[k]? = some p) : liveT z (l.take (k + 1)) = liveT z (l.take k) + liveR z p.2.1.refs := by
  rw [List.take_add_one, h, liveT_append]
  simp [liveT]
def lvGood (m : Mt) : Prop := m.refs.length ≤ 20 ∧ ∀ r ∈ m.refs, 0 ≤ r.2 ∧ r.2 ≤ 1073741824
theorem liveR_bd {z : Int} : ∀ {l : List (Int × Int)}, (∀ r ∈ l, 0 ≤ r.2 ∧ r.2 ≤ 1073741824) → 0 ≤ liveR z l ∧ liveR z l ≤ l.length * 1073741824
  | [], _ => by simp [liveR]
  | r :: t, h => by
    have h1 := h r (by simp)
    have h2 := liveR_bd (z := z) (l := t) (fun q hq => h q (by simp [hq]))
    simp only [liveR, List.length_cons]
    split <;> omega
theorem liveT_bd {z : Int} : ∀ {l : List (Nat × Mr)}, (∀ p ∈ l, lvGood p.2.1) → 0 ≤ liveT z l ∧ liveT z l ≤ l.length * 21474836480
  | [], _ => by simp [liveT]
  | p :: t, h => by
    have h1 := h p (by simp)
    have h2 := liveT_bd (z := z) (l := t) (fun q hq => h q (by simp [hq]))
    have h3 := liveR_bd (z := z) h1.2
    have h4 := h1.1
    simp only [liveT, List.length_cons]
    omega
theorem refsOk_at {l : List (Int × Int)} : ∀ {n : Nat}, refsOk l n = true → ∀ k, k < n → refOk l k = true
  | 0, _, k, hk => by omega
  | n + 1, h, k, hk => by
    have h' : (refsOk l n && refOk l n) = true := h
    rw [Bool.and_eq_true] at h'
    by_cases e : k = n
    · subst e; exact h'.2
    · exact refsOk_at h'.1 k (by omega)
theorem mOk_good {m : Mt} (h : mOk m = true) (hs : m.refs.length ≤ 20) : lvGood m := by
  refine ⟨hs, fun r hr => ?_⟩
  obtain ⟨k, hk⟩ := List.mem_iff_getElem?.1 hr
  unfold mOk metaOk at h
  rw [Bool.and_eq_true] at h
  have := refsOk_at h.2 k (List.getElem?_eq_some_iff.1 hk).1
  unfold refOk at this
  rw [List.getD_eq_getElem?_getD, hk] at this
  simp only [Option.getD_some, Bool.and_eq_true, decide_eq_true_eq] at this
  have h1 := this.1.1.2
  have h2 := this.1.2
  omega
/-! ### the law's -/
def LiveI (w : World) (V : Vn) (z : Int) (s : Int) (W : World) : Prop :=
  W.heap[w.heap.size]? = some (.cells V.cells 48 (0, 0)) ∧ W.heap[w.heap.size + 1]? = some (.cells #[.int .i64 z] 3 (0, 0)) ∧ W.heap[w.heap.size + 1 + 1]? = some (.cells #[.int .i64 s] 3 (0, 0)) ∧
  W.heap[w.heap.size + 1 + 1 + 1]? = some (.cells #[.pointer (some ⟨w.heap.size, 0, none⟩)] 112 (0, 0)) ∧ Below w.heap.size w W
def LiveK (w : World) (V : Vn) (z : Int) (k : Nat) (W : World) : Prop := LiveI w V z (liveT z ((tabs V.l 4).take k)) W
theorem liveI_below {w W W' : World} {V : Vn} {z s : Int} (h : LiveI w V z s W) (hb : Below W.heap.size W W') : LiveI w V z s W' :=
  ⟨blk_bels hb h.1, blk_bels hb h.2.1, blk_bels hb h.2.2.1, blk_bels hb h.2.2.2.1, h.2.2.2.2.trans (hb.mono h.2.2.2.2.size)⟩
theorem liveI_set {w W : World} {V : Vn} {z s : Int} (h : LiveI w V z s W) (x : Int) : LiveI w V z x (W.setCell ⟨w.heap.size + 1 + 1, 0, none⟩ (.int .i64 x)) := by
  have far : ∀ {b : Nat} {o : Obj}, b ≠ w.heap.size + 1 + 1 → W.heap[b]? = some o → (W.setCell ⟨w.heap.size + 1 + 1, 0, none⟩ (.int .i64 x)).heap[b]? = some o := fun hne hb => (Below.heap_setCell _ ⟨w.heap.size + 1 + 1, 0, none⟩ _ _ hne).trans hb
  exact ⟨far (by omega) h.1, far (by omega) h.2.1, blk_set h.2.2.1, far (by omega) h.2.2.2.1, h.2.2.2.2.setCell (by simp; omega) _⟩
theorem liveK_own {w : World} {V : Vn} {z : Int} {B : Nat} (hB : w.heap.size ≤ B) : OwnFrom B (LiveK w V z) :=
  st_and (st_blk _ _ _ _) (st_and (st_blk _ _ _ _) (st_and (st_blk _ _ _ _) (st_and (st_blk _ _ _ _) (st_below (Nat.le_refl _) hB))))
def LiveX (w : World) (c : Code) (k : Nat) (W : World) : Prop := False
theorem liveX_own {w : World} {B : Nat} (c : Code) : OwnFrom B (LiveX w c) := fun _ _ _ _ h _ _ => h.elim
attribute [local go_sem] Oper.semAt_some
set_option maxHeartbeats 3200000 in
theorem live_any (V : Vn) (z : Int) (w : World) (h : IsVn w V) (hl : (tabs V.l 4).length ≤ 100000) (hg : ∀ p ∈ tabs V.l 4, lvGood p.2.1) :
    Calls Try.prog 25 #[.agg V.cells, .int .i64 z] w fun e w' => e = .returned (.int .i64 (liveT z (tabs V.l 4))) ∧ Below w.heap.size w w' := by
  have H := Lib.hid h
  have Hg := Lib.hid hg
  clear h hg
  unfold Vn.cells
  refine calls_of_marks Try.func25 rfl ?_
  simp only [Try.ntmps25, List.size_toArray, List.length_cons, List.length_nil, Nat.reduceAdd, Nat.reduceSub, Array.replicate_succ, Array.replicate_zero, List.push_toArray, List.append_toArray, List.nil_append, List.cons_append]
  go_wp2_with fail
  refine (all_any _ _).mono ?_
  rintro e w' ⟨rfl, rfl⟩
  go_wp2_with fail
  generalize hW : (((w.alloc (.cells #[V.v 0, V.v 1, V.v 2, V.v 3] 48)).alloc (.cells #[.int .i64 z] 3)).alloc (.cells #[.int .i64 0] 3)).alloc (.cells #[.pointer (some ⟨w.heap.size, 0, none⟩)] 112) = W
  have hWs : W.heap.size = w.heap.size + 1 + 1 + 1 + 1 := by rw [← hW]; simp only [World.size_alloc]
  have hI : LiveK w V z 0 W := by
    rw [← hW]
    exact ⟨blk_old (blk_old (blk_old (blk_new rfl _) _) _) _, blk_old (blk_old (blk_new (by simp only [World.size_alloc]) _) _) _, blk_old (blk_new (by simp only [World.size_alloc]) _) _, blk_new (by simp only [World.size_alloc]) _,
      ((((Below.refl _ _).alloc (Nat.le_refl _) _).alloc (by simp) _).alloc (by simp; omega) _).alloc (by simp; omega) _⟩
  clear hW
  have HWs := Lib.hid hWs
  clear hWs
  refine range_lawS (gf := 60) (lb := #[.pointer (some ⟨w.heap.size + 1 + 1 + 1, 0, none⟩)]) rfl (enters_of Try.func60 (by kernel_rfl) rfl)
    (all_iter (w.heap.size + 1 + 1 + 1) w.heap.size V w H.out) (tabEnc_size V.l) (LiveK w V z) (LiveX w) (fun k X hX => ⟨hX.2.2.2.1, hX.1, hX.2.2.2.2⟩) (liveK_own (by rw [HWs.out]; omega)) liveX_own hI ?round ?done ?stop
  case round =>
    rintro yl k X hk hXs hI0
    obtain ⟨p, hp⟩ : ∃ p, (tabs V.l 4)[k]? = some p := ⟨_, List.getElem?_eq_getElem hk⟩
    rw [tabEnc_at V.l hp]
    have hrr := tabs_rr H.out hp
    have hgp := Hg.out p (List.mem_of_getElem? hp)
    have Hsucc := Lib.hid (liveT_succ (z := z) hp)
    have hbd := liveT_bd (z := z) (l := (tabs V.l 4).take k) (fun q hq => Hg.out q (List.mem_of_mem_take hq))
    rw [List.length_take] at hbd
    obtain ⟨n, ⟨⟨mz, mn, a, b, refs⟩, vr⟩⟩ := p
    dsimp only at hrr hgp
    obtain ⟨ra, rc, hrv, hrc1, hrc2, hrx⟩ := hrr
    dsimp only at Hsucc
    obtain ⟨T0, hT0⟩ : ∃ T0, T0 = liveT z ((tabs V.l 4).take k) := ⟨_, rfl⟩
    rw [← hT0] at Hsucc hbd
    have hb1 : 0 ≤ T0 ∧ T0 ≤ 2147483648000000 := ⟨hbd.1, by have := hbd.2; omega⟩
    have HI0 : Hid (LiveI w V z T0 X) := Lib.hid (by rw [hT0]; exact hI0)
    obtain ⟨rn, hrn⟩ : ∃ rn, rn = refs.length := ⟨_, rfl⟩
    rw [← hrn] at hrv hrc1
    subst hrv
    have Hrn := Lib.hid hrn
    have hrn20 : rn ≤ 20 := by rw [hrn]; exact hgp.1
    have Hgp := Lib.hid hgp.2
    have Hrx := Lib.hid hrx
    clear hp hrx hgp hbd hI0 hrn hT0 hrc1 hrc2
    unfold mrC
    gi_wp2
    refine ⟨keeps_of ((Below.refl _ _).alloc (Nat.le_refl _) _), ?_⟩
    intro Y hY
    have hI2 : LiveI w V z T0 Y := st_turn (I := fun (_ : Unit) => LiveI w V z T0) (s := ()) (B := W.heap.size) (st_and (st_blk (fun _ => w.heap.size) (fun _ => V.cells) _ _) (st_and (st_blk (fun _ => w.heap.size + 1) (fun _ => #[.int .i64 z]) _ _) (st_and (st_blk (fun _ => w.heap.size + 1 + 1) (fun _ => #[.int .i64 T0]) _ _) (st_and (st_blk (fun _ => w.heap.size + 1 + 1 + 1) (fun _ => #[.pointer (some ⟨w.heap.size, 0, none⟩)]) _ _) (st_below (Nat.le_refl _) (by rw [HWs.out]; omega)))))) hY (liveI_below HI0.out ((Below.refl _ _).alloc (Nat.le_refl _) _))
    have hm := blk_turn hY (blk_new rfl (.cells #[.int .i64 mz, .int .i64 mn, .string a.u, .int .i64 a.s, .int .i64 a.k, .string b.u, .int .i64 b.s, .int .i64 b.k, .slice ra rn rc] 26))
    obtain ⟨mb, hmb⟩ : ∃ mb, mb = X.heap.size := ⟨_, rfl⟩
    rw [← hmb] at hm ⊢
    have m8 : Y.cell? ⟨mb, 8, none⟩ = some (.slice ra rn rc) := (cell_of_blk hm 8).trans rfl
    have HI2 := Lib.hid hI2
    have Hfin : Hid (∀ Z, KeepsFrom W.heap.size Y Z → LiveI w V z (T0 + liveR z refs) Z → KeepsFrom W.heap.size Y Z ∧ LiveK w V z (k + 1) Z) := Lib.hid (fun Z h1 h2 => ⟨h1, by unfold LiveK; rw [Hsucc.out]; exact h2⟩)
    clear hI2 hm hY HI0 hmb Hsucc
    gi_wp2_with fail
    clear m8
    gi_loopg [16] (rn + 1) (fun g iv wr => ∃ i : Nat, i ≤ rn ∧ g = rn - i + 1 ∧ iv = .int .i64 i ∧ KeepsFrom W.heap.size Y wr ∧ LiveI w V z (T0 + liveR z (refs.take i)) wr)
    case atStart => exact ⟨0, Nat.zero_le _, rfl, rfl, KeepsFrom.refl _ _, by rw [List.take_zero]; simp only [liveR, Int.add_zero]; exact HI2.out⟩
    case round =>
      obtain ⟨wo, rfl⟩ : ∃ wo : World, wo = wr := ⟨_, rfl⟩
      obtain ⟨i, hi, rfl, rfl, hkp, hi2⟩ := hrel
      have Hkp := Lib.hid hkp
      have Hi2 := Lib.hid hi2
      clear hkp hi2
      by_cases hin : i < rn
      · obtain ⟨bb, off, rfl, hcell⟩ := Hrx.out (by rw [← List.length_pos_iff, ← Hrn.out]; omega)
        obtain ⟨r, hr⟩ : ∃ r, refs[i]? = some r := ⟨_, List.getElem?_eq_getElem (by rw [← Hrn.out]; exact hin)⟩
        obtain ⟨d0, d1⟩ := IsRr.two (w := wo) (fun i x hi j y hj => (Hi2.out.2.2.2.2.cell (block_lt_of_cell (hcell i x hi j y hj))).trans (hcell i x hi j y hj)) hr
        have hs := liveR_succ (z := z) hr
        have hgr := Hgp.out r (List.mem_of_getElem? hr)
        have hbk := liveR_bd (z := z) (l := refs.take i) (fun q hq => Hgp.out q (List.mem_of_mem_take hq))
        rw [List.length_take] at hbk
        obtain ⟨rz, rb⟩ := r
        dsimp only at d0 d1 hs hgr
        obtain ⟨T1, hT1⟩ : ∃ T1, T1 = liveR z (refs.take i) := ⟨_, rfl⟩
        rw [← hT1] at hs hbk Hi2
        have hb2 : 0 ≤ T1 ∧ T1 ≤ 21474836480 := ⟨hbk.1, by have := hbk.2; omega⟩
        have Hs := Lib.hid hs
        have hb3 := hb1.1
        have hb4 := hb1.2
        have hb5 := hb2.1
        have hb6 := hb2.2
        have hb7 := hgr.1
        have hb8 := hgr.2
        have c1 := (cell_of_blk Hi2.out.2.1 0).trans (show _ = some (.int .i64 z) from rfl)
        have c2 := (cell_of_blk Hi2.out.2.2.1 0).trans (show _ = some (.int .i64 (T0 + T1)) from rfl)
        have hAl : Below wo.heap.size wo (wo.alloc (.cells #[.int .i64 rz, .int .i64 rb] 55)) := (Below.refl _ _).alloc (Nat.le_refl _) _
        have Hi3 := Lib.hid (liveI_below Hi2.out hAl)
        have Hk3 := Lib.hid (Hkp.out.trans ((KeepsOthers.alloc wo (.cells #[.int .i64 rz, .int .i64 rb] 55)).from W.heap.size))
        have c3 := (cell_of_blk Hi3.out.2.1 0).trans (show _ = some (.int .i64 z) from rfl)
        have c4 := (cell_of_blk Hi3.out.2.2.1 0).trans (show _ = some (.int .i64 (T0 + T1)) from rfl)
        have c5 := frozen_of_blk Hi3.out.2.2.1 0
        have hR := blk_of_alloc wo (.cells #[.int .i64 rz, .int .i64 rb] 55)
        have r0 := (cell_of_blk hR 0).trans (show _ = some (.int .i64 rz) from rfl)
        have r1 := (cell_of_blk hR 1).trans (show _ = some (.int .i64 rb) from rfl)
        clear hcell hr hs hgr hbk hT1 hAl hR hb1 hb2 c1 c2
        by_cases hz : rz = z
        · have hz2 : (rz == z) = true := by simpa using hz
          rw [if_pos hz] at Hs
          have Hi4 := Lib.hid (liveI_set Hi3.out (T0 + T1 + rb))
          have Hk4 := Lib.hid (Hk3.out.trans ((KeepsOthers.setCell (wo.alloc (.cells #[.int .i64 rz, .int .i64 rb] 55)) ⟨w.heap.size + 1 + 1, 0, none⟩ (.int .i64 (T0 + T1 + rb))).from W.heap.size))
          have Hz := Lib.hid hz
          clear hz
          gi_wp2_with fail
          gi_roundg (rn - (i + 1) + 1)
          case measure => omega
          case rel => exact ⟨i + 1, by omega, rfl, by go_num, Hk4.out, by rw [Hs.out, ← Int.add_assoc]; exact Hi4.out⟩
        · have hz2 : (rz == z) = false := by simpa using hz
          rw [if_neg hz] at Hs
          have Hz := Lib.hid hz
          clear hz
          gi_wp2_with fail
          gi_roundg (rn - (i + 1) + 1)
          case measure => omega
          case rel => exact ⟨i + 1, by omega, rfl, by go_num, Hk3.out, by rw [Hs.out, Int.add_zero]; exact Hi3.out⟩
      · obtain rfl : i = rn := by omega
        have hi3 := Hi2.out
        rw [Hrn.out, List.take_length] at hi3
        have HF := Lib.hid (Hfin.out _ Hkp.out hi3)
        clear hi3
        gi_wp2_with fail
        exact HF.out
  case done =>
    rintro D Z hD hZ hI9 hK
    have hDw : w.heap.size + 1 + 1 + 1 + 1 ≤ D := by have := HWs.out; omega
    have KD := Lib.hid hK
    have c2 := (cell_of_blk hI9.2.2.1 0).trans (show _ = some (.int .i64 (liveT z ((tabs V.l 4).take (tabs V.l 4).length))) from rfl)
    rw [List.take_length] at c2
    have Hb := Lib.hid hI9.2.2.2.2
    clear hI9 hK
    go_wp2_with fail
    refine leave_mark KD.out (v := .int .i64 (liveT z (tabs V.l 4))) ?_ ⟨rfl, ?_⟩
    · simp [results, Try.results25, go_sem]
    · exact below_put Hb.out _ (by omega) Hb.out.size
  case stop =>
    intro D c k Z hD hZ hk hx
    exact hx.elim
/-! ### the document's -/
theorem liveT_level {z : Int} {n : Nat} : ∀ (l : List Mr) {k : Nat} {r : Mr}, l[k]? = some r → liveT z ((l.take (k + 1)).map fun r => (n, r)) = liveT z ((l.take k).map fun r => (n, r)) + liveR z r.1.refs := by
  intro l k r h
  rw [List.take_add_one, h, List.map_append, liveT_append]
  simp [liveT]
theorem liveT_tabs (l : Nat → List Mr) (z : Int) (n : Nat) : liveT z (tabs l (n + 1)) = liveT z (tabs l n) + liveT z ((l n).map fun r => (n, r)) := by
  show liveT z (tabs l n ++ _) = _
  rw [liveT_append]
set_option maxHeartbeats 3200000 in
theorem rlive_any (X : Vn) (xb : Nat) (z : Int) (w : World) (hxb : w.heap[xb]? = some (.cells X.cells 61 (0, 0))) (h : IsVn w X) (hl : ∀ n, n < 4 → (X.l n).length ≤ 20000) (hg : ∀ n, n < 4 → ∀ r ∈ X.l n, lvGood r.1) :
    Calls Try.prog 26 #[.pointer (some ⟨xb, 0, none⟩), .int .i64 z] w fun e w' => e = .returned (.int .i64 (liveT z (tabs X.l 4))) ∧ w = w' := by
  have H := Lib.hid h
  have Hxb := Lib.hid hxb
  have Hg := Lib.hid hg
  have Hl := Lib.hid hl
  have Hgt : Hid (∀ n, n ≤ 4 → 0 ≤ liveT z (tabs X.l n) ∧ liveT z (tabs X.l n) ≤ 20000 * n * 21474836480) := Lib.hid (fun n hn => by
    have h1 := liveT_bd (z := z) (l := tabs X.l n) (fun p hp => by obtain ⟨h1, h2⟩ := tabs_mem hp; exact hg p.1 (by omega) _ h2)
    have h2 : (tabs X.l n).length ≤ n * 20000 := tabs_le n (fun m hm => hl m (by omega))
    refine ⟨h1.1, Int.le_trans h1.2 ?_⟩
    omega)
  clear h hxb hg hl
  go_enter Try.func26, Try.ntmps26
  go_wp2
  go_loop [5, 6] (fun sv nv => ∃ n : Nat, n ≤ 4 ∧ nv = .int .i64 n ∧ sv = .int .i64 (liveT z (tabs X.l n))) (fun _ nv => 4 - (intOf nv).toNat)
  case atStart => exact ⟨0, Nat.zero_le _, rfl, rfl⟩
  case round =>
    obtain ⟨n, hn, rfl, rfl⟩ := hrel
    by_cases hn4 : n < 4
    · have hni : (n : Int) < 4 := by omega
      obtain ⟨a, c, hv, hc1, hm1, hx1⟩ := (H.out n hn4).1
      have Hrr := Lib.hid (H.out n hn4).2
      have cv : w.cell? ⟨xb, n, none⟩ = some (.slice a (X.l n).length c) := (cell_of_blk Hxb.out n).trans ((vn_cell X hn4).trans (by rw [hv]))
      have Hx1 := Lib.hid hx1
      have hbn := Hgt.out n hn
      have Hsn := Lib.hid (liveT_tabs X.l z n)
      obtain ⟨T0, hT0⟩ : ∃ T0, T0 = liveT z (tabs X.l n) := ⟨_, rfl⟩
      rw [← hT0] at hbn Hsn ⊢
      obtain ⟨m, hm⟩ : ∃ m, m = (X.l n).length := ⟨_, rfl⟩
      have hm2 : m ≤ 20000 := by rw [hm]; exact Hl.out n hn4
      rw [← hm] at cv hc1
      have hb1 : 0 ≤ T0 := hbn.1
      have hb2 : T0 ≤ 1717986918400000 := by have := hbn.2; omega
      have Hm := Lib.hid hm
      clear hv hx1 hm hc1 hm1 hbn hT0
      go_wp2
      go_loop [5, 7] (fun sv iv => ∃ i : Nat, i ≤ m ∧ iv = .int .i64 i ∧ sv = .int .i64 (T0 + liveT z (((X.l n).take i).map fun r => (n, r)))) (fun _ iv => m - (intOf iv).toNat)
      case atStart => exact ⟨0, Nat.zero_le _, rfl, by simp [liveT]⟩
      case round =>
        obtain ⟨i, hi, rfl, rfl⟩ := hrel
        have hbi := liveT_bd (z := z) (l := ((X.l n).take i).map fun r => (n, r)) (fun p hp => by
          obtain ⟨r, hr, rfl⟩ := List.mem_map.1 hp
          exact Hg.out n hn4 r (List.mem_of_mem_take hr))
        rw [List.length_map, List.length_take] at hbi
        by_cases him : i < m
        · obtain ⟨b, off, rfl, hcell⟩ := Hx1.out (by rw [← List.length_pos_iff, ← Hm.out]; omega)
          obtain ⟨r, hr⟩ : ∃ r, (X.l n)[i]? = some r := ⟨_, List.getElem?_eq_getElem (by rw [← Hm.out]; exact him)⟩
          obtain ⟨-, -, -, -, -, -, -, -, d8⟩ := IsMr.row hcell hr
          have hrr := Hrr.out r (List.mem_of_getElem? hr)
          have hgr := Hg.out n hn4 r (List.mem_of_getElem? hr)
          have Hsi := Lib.hid (liveT_level (z := z) (n := n) (X.l n) hr)
          obtain ⟨T1, hT1⟩ : ∃ T1, T1 = liveT z (((X.l n).take i).map fun r => (n, r)) := ⟨_, rfl⟩
          rw [← hT1] at hbi Hsi ⊢
          obtain ⟨⟨mz, mn, ka, kb, refs⟩, vr⟩ := r
          dsimp only at d8 hrr hgr Hsi
          obtain ⟨ra, rc, hrv, hrc1, hrc2, hrx⟩ := hrr
          obtain ⟨rn, hrn⟩ : ∃ rn, rn = refs.length := ⟨_, rfl⟩
          rw [← hrn] at hrv hrc1
          subst hrv
          have hrn20 : rn ≤ 20 := by rw [hrn]; exact hgr.1
          have Hrn := Lib.hid hrn
          have Hgp := Lib.hid hgr.2
          have Hrx := Lib.hid hrx
          have hb3 : 0 ≤ T1 := hbi.1
          have hb4 : T1 ≤ 429496729600000 := by have := hbi.2; omega
          clear hcell hr hrx hgr hbi hT1 hrn hrc1 hrc2
          go_wp2
          go_loop [5, 8] (fun sv jv => ∃ j : Nat, j ≤ rn ∧ jv = .int .i64 j ∧ sv = .int .i64 (T0 + T1 + liveR z (refs.take j))) (fun _ jv => rn - (intOf jv).toNat)
          case atStart => exact ⟨0, Nat.zero_le _, rfl, by simp [liveR]⟩
          case round =>
            obtain ⟨j, hj, rfl, rfl⟩ := hrel
            have hbj := liveR_bd (z := z) (l := refs.take j) (fun q hq => Hgp.out q (List.mem_of_mem_take hq))
            rw [List.length_take] at hbj
            by_cases hjr : j < rn
            · obtain ⟨b2, off2, rfl, hcell2⟩ := Hrx.out (by rw [← List.length_pos_iff, ← Hrn.out]; omega)
              obtain ⟨q, hq⟩ : ∃ q, refs[j]? = some q := ⟨_, List.getElem?_eq_getElem (by rw [← Hrn.out]; exact hjr)⟩
              obtain ⟨e0, e1⟩ := IsRr.two hcell2 hq
              have hgq := Hgp.out q (List.mem_of_getElem? hq)
              have hsj := liveR_succ (z := z) hq
              obtain ⟨T2, hT2⟩ : ∃ T2, T2 = liveR z (refs.take j) := ⟨_, rfl⟩
              rw [← hT2] at hbj hsj ⊢
              obtain ⟨rz, rb⟩ := q
              dsimp only at e0 e1 hgq hsj
              have Hsj := Lib.hid hsj
              have hb5 : 0 ≤ T2 := hbj.1
              have hb6 : T2 ≤ 21474836480 := by have := hbj.2; omega
              have hb7 := hgq.1
              have hb8 := hgq.2
              clear hcell2 hq hsj hbj hT2 hgq
              by_cases hz : rz = z
              · have hz2 : (rz == z) = true := by simpa using hz
                rw [if_pos hz] at Hsj
                clear hz
                go_wp2
                go_round
                case rel => exact ⟨j + 1, by omega, by go_num, by rw [Hsj.out, ← Int.add_assoc]⟩
                case measure => simp [intOf]; omega
              · have hz2 : (rz == z) = false := by simpa using hz
                rw [if_neg hz] at Hsj
                clear hz
                go_wp2
                go_round
                case rel => exact ⟨j + 1, by omega, by go_num, by rw [Hsj.out, Int.add_zero]⟩
                case measure => simp [intOf]; omega
            · obtain rfl : j = rn := by omega
              have HF : Hid (T0 + T1 + liveR z (refs.take j) = T0 + liveT z (((X.l n).take (i + 1)).map fun r => (n, r))) := Lib.hid (by rw [Hsi.out, Hrn.out, List.take_length, Int.add_assoc])
              clear hbj
              generalize liveR z (refs.take j) = T2 at *
              go_wp2
              go_round
              case rel => exact ⟨i + 1, by omega, by go_num, by rw [HF.out]⟩
              case measure => simp [intOf]; omega
        · obtain rfl : i = m := by omega
          have HF : Hid (T0 + liveT z (((X.l n).take i).map fun r => (n, r)) = liveT z (tabs X.l (n + 1))) := Lib.hid (by rw [Hsn.out, Hm.out, List.take_length])
          clear hbi
          generalize liveT z (((X.l n).take i).map fun r => (n, r)) = T1 at *
          go_wp2
          go_round
          case rel => exact ⟨n + 1, by omega, by go_num, by rw [HF.out]⟩
          case measure => simp [intOf]; omega
    · obtain rfl : n = 4 := by omega
      go_wp2
      go_ret
      exact ⟨rfl, rfl⟩
end Go.Proofs.Ytjefpogeknbelaa.Tithe
